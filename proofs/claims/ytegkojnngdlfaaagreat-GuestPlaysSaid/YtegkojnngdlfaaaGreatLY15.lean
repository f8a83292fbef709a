/- Ahead of a call: nil slices in a struct's cells as empty rows; regions that draw their order, where named calls only make something new. No conditions. -/
import Derived.Test.YtegkojnngdlfaaaGreatLEnv
set_option linter.unusedSimpArgs false
set_option linter.unusedVariables false
namespace Go.Lx
open Go
open Go.Sx (NP Keeps Hp TEnv TOk FOk ArEq resOf)
def ConvE (B : Base) (st st' : St) : Prop := st'.n = st.n ∧ ∀ E F a w, Inv B st E F a w → ∃ E', E.Le E' ∧ Inv B st' E' F a w
theorem Ev.Le.trans {a b c : Ev} (h : a.Le b) (k : b.Le c) : a.Le c := ⟨Nat.le_trans h.n k.n, fun i hi => by
  have h1 := h.at' i hi
  have h2 := k.at' i (Nat.lt_of_lt_of_le hi h.n)
  exact ⟨h2.ρ.trans h1.ρ, h2.κ.trans h1.κ, h2.nl.trans h1.nl, h2.len.trans h1.len, h2.sz.trans h1.sz⟩⟩
theorem ConvE.trans {B : Base} {a b c : St} (h : ConvE B a b) (k : ConvE B b c) : ConvE B a c := ⟨k.1.trans h.1, fun E F ac w hI => by
  obtain ⟨E1, h1, h2⟩ := h.2 E F ac w hI
  obtain ⟨E2, h3, h4⟩ := k.2 E1 F ac w h2
  exact ⟨E2, h1.trans h3, h4⟩⟩
theorem ConvE.hollowC {B : Base} {st : St} (i p : Nat) (T : TypeId) (sz : Nat) (hsz : 0 < sz) {T' : TypeId} {cells : List V} (hi : st.own[i]? = some (.st T' cells)) (hp : cells[p]? = some (.p .nils)) :
    ConvE B st ⟨st.n, st.fr, st.own.set i (.st T' (cells.set p (.vw st.own.length sz 0 0 none))) ++ [.arr T sz []]⟩ := by
  refine ⟨rfl, fun E F a w hI => ?_⟩
  have h1 := hI.newHollow (Keeps.refl _ w) T hsz
  have hil := lt_of_some hi
  have hset : st.own.set i (.st T' (cells.set p (.vw st.own.length sz 0 0 none))) ++ [Res.arr T sz []] = (st.own ++ [Res.arr T sz []]).set i (.st T' (cells.set p (.vw st.own.length sz 0 0 none))) := by
    rw [List.set_append_left _ _ hil]
  rw [hset]
  refine ⟨_, ?_, h1.set1 (j := i) (by simp; omega) (Keeps.refl _ w) ?_ (fun T2 c h => ?_)⟩
  · exact E.push_le _ _ _ _ _
  · have hh := h1.held i (.st T' cells) (by rw [List.getElem?_append_left hil]; exact hi)
    obtain ⟨g0, g1, vals, g2, g3⟩ := hh
    refine ⟨g0, g1, vals, g2, ?_⟩
    obtain ⟨x, hx, hd⟩ := g3.get hp
    have := hd.nils_inv; subst this
    have hset2 : vals.set p (.slice none 0 0) = vals := by
      obtain ⟨hlt, he⟩ := List.getElem?_eq_some_iff.1 hx
      rw [← he]; exact List.set_getElem_self hlt
    have := g3.set (c := .vw st.own.length sz 0 0 none) (v := .slice none 0 0) (.vwn _ _ none _ (by simp [Ev.push, hI.en]) (by simp [Ev.push, hI.en]) (by simp [Ev.push, hI.en]) rfl) p
    rwa [hset2] at this
  · rw [List.getElem?_append_left hil, hi] at h; cases h; exact ⟨_, rfl⟩
theorem CallEv.convE {B : Base} {P : Program} {f : FuncId} {args : List V} {X : Nat → Bool} {st st' : St} {k : V → St → Prop} (hc : ConvE B st st') (h : CallEv B P f args X st' k) : CallEv B P f args X st k := by
  intro E F a w vals hI hd
  obtain ⟨E', hle, hI'⟩ := hc.2 E F a w hI
  rcases h E' F a w vals hI' (hd.mono (Sx.Hp.Le.refl _) hle) with ⟨g1, g2⟩ | ⟨x, w', g1, v, st2, E2, F2, k1, k2⟩
  · exact .inl ⟨g1, Calls.mono g2 fun e w' ⟨x, hx, v, st2, E2, F2, k1, k2⟩ => ⟨x, hx, v, st2, E2, F2, k1.trans hc.1, k2⟩⟩
  · exact .inr ⟨x, w', g1, v, st2, E2, F2, k1.trans hc.1, k2⟩
def YieldsM (P : Program) (ops : Array Oper) (o : Oper) (v : Value) (a : Act) (w : World) : Prop :=
  (Region.wanted o (yielded ops a.tmps) = true ∧ ∀ w', (execOp a.eval o).run P w' = .ok (.value v) w') ∨ (Region.wanted o (yielded ops a.tmps) = false ∧ v = undef)
theorem YieldsM.step {P : Program} {ops : Array Oper} {o : Oper} {v : Value} {a : Act} {w : World} (h : YieldsM P ops o v a w) {K : Value → World → Prop} (hk : K v w) : stepD P ops o a w K := by
  unfold stepD
  rcases h with ⟨h1, h2⟩ | ⟨h1, rfl⟩
  · rw [if_pos h1]; exact resOf_value (h2 w) hk
  · rw [if_neg (by rw [h1]; simp)]; exact hk
theorem DB.firstM {P : Program} {ops : Array Oper} {A : Nat → Prop} {Q : Act → World → Prop} {i : Nat} {oi : Oper} {v : Value} (hi : ops[i]? = some oi) (hsel : ∀ (j : Nat) (o : Oper) cs b, ops[j]? = some o → o.op ≠ .select cs b) :
    ∀ (fuel : Nat) (D : NP) (listed : Array Bool) (a : Act) (w : World), Closed ops listed →
      (∀ j oj, ops[j]? = some oj → j ≠ i → listed.getD j true = false → (∀ e ∈ oj.after, Region.binds .any e = true → e.on ≠ i) → oi.apart ops oj = true) →
      i ∈ Region.ready .any ops listed → YieldsM P ops oi v a w →
      DB P ops Q A fuel D (listed.setIfInBounds i true) (a.put oi.dst v) w → DB P ops Q A (fuel + 1) D listed a w := by
  intro fuel
  induction fuel with
  | zero =>
    intro D listed a w hcl _ hr hy H
    refine ⟨fun h => (by rw [h] at hr; cases hr), fun j hj => ?_⟩
    by_cases hji : j = i
    · subst hji; exact ⟨oi, hi, hy.step ⟨D, .inr ⟨Prot.refl _ _, fun _ _ h => h⟩, H⟩⟩
    · have := ready_mono hj hji
      rw [H.1] at this
      cases this
  | succ fuel ih =>
    intro D listed a w hcl hfree hr hy H
    refine ⟨fun h => (by rw [h] at hr; cases hr), fun j hj => ?_⟩
    by_cases hji : j = i
    · subst hji; exact ⟨oi, hi, hy.step ⟨D, .inr ⟨Prot.refl _ _, fun _ _ h => h⟩, H⟩⟩
    · obtain ⟨oj, hoj, h1⟩ := H.2 j (ready_mono hj hji)
      obtain ⟨hjun, oj', hoj', hall⟩ := mem_ready.1 hj
      rw [hoj] at hoj'; cases hoj'
      have hiun : listed.getD i false = true → False := fun h => by
        have h0 := (mem_ready.1 hr).1
        rcases Nat.lt_or_ge i listed.size with h' | h'
        · simp [h'] at h0 h; rw [h0] at h; cases h
        · simp [Array.getElem?_eq_none h'] at h
      have hnot : ∀ e ∈ oj.after, Region.binds .any e = true → e.on ≠ i := fun e he hb heq => hiun (heq ▸ hall e he hb)
      have hap := hfree j oj hoj hji hjun hnot
      obtain ⟨a1, a2, a3⟩ := Oper.apart_spec hap
      have hfree' : ∀ k ok, ops[k]? = some ok → k ≠ i → (listed.setIfInBounds j true).getD k true = false →
          (∀ e ∈ ok.after, Region.binds .any e = true → e.on ≠ i) → oi.apart ops ok = true := fun k ok hk hki hun hno => by
        refine hfree k ok hk hki ?_ hno
        by_cases hjk : j = k
        · subst hjk; exact hjun
        · rw [getD_set_ne true hjk] at hun; exact hun
      refine ⟨oj, hoj, (h1.put (fun cs b => hsel j oj cs b hoj) a1).mono ?_⟩
      rintro u w' ⟨D', hpd, h3⟩
      refine ⟨D', hpd, ih D' _ _ w' (hcl.step hj) hfree' (ready_mono hr (Ne.symm hji)) ?_ ?_⟩
      · rcases hy with ⟨hw, hrun⟩ | ⟨hw, hv⟩
        · refine .inl ⟨by rw [wanted_put oi a oj.dst u a3]; exact hw, fun w2 => ?_⟩
          rw [execOp_put oi (fun cs b => hsel i oi cs b hi) a oj.dst u a3]
          exact hrun w2
        · exact .inr ⟨by rw [wanted_put oi a oj.dst u a3]; exact hw, hv⟩
      · rw [Array.setIfInBounds_comm _ _ hji, ← Act.put_comm a v u a2]
        exact h3
def isMv (ops : Array Oper) (i : Nat) : Bool :=
  match ops[i]? with
  | some o => match o.op with
    | .move _ => true
    | _ => false
  | none => false
theorem isMv_spec {ops : Array Oper} {i : Nat} (h : isMv ops i = true) {o : Oper} (ho : ops[i]? = some o) : ∃ y, o.op = .move y := by
  unfold isMv at h
  rw [ho] at h
  simp only at h
  split at h
  · exact ⟨_, by assumption⟩
  · cases h
theorem mv_run {P : Program} {a : Act} {o : Oper} {y : Operand} (ho : o.op = .move y) (w : World) : (execOp a.eval o).run P w = .ok (.value (a.eval y)) w := by
  simp only [execOp, ho]; rfl
def schedOkM (ops : Array Oper) : Array Bool → List (Nat × Mb) → Bool
  | listed, [] => (Region.ready .any ops listed).isEmpty
  | listed, (i, e) :: r => (Region.ready .any ops listed).contains i && (match e with
    | .act => (Region.ready .any ops listed).all fun j => Nat.beq j i
    | .fresh => (Region.ready .any ops listed).all fun j => Nat.beq j i
    | .sole => (Region.ready .any ops listed).all fun j => Nat.beq j i
    | .rd => Region.free .any ops listed i && (aheadC ops.toList i r || isMv ops i)) && schedOkM ops (listed.setIfInBounds i true) r
theorem vcDb.okM {B : Base} {P : Program} {E : TEnv} (hE : TOk P E) (hF : FOk P E) {X : Nat → Bool} {ops : Array Oper} {Q : St → Prop} (hsel : Region.noSelect ops = true) : ∀ (l : List (Nat × Mb)) (listed : Array Bool) (st : St),
    Closed ops listed → schedOkM ops listed l = true → vcDb (.std B P) E X ops.toList Q l st → ∀ E0 F a w, Inv B st E0 F a w → DB P ops (fun a w => ∃ st E F, Inv B st E F a w ∧ Q st) (fun j => (j, Mb.act) ∈ l) l.length (DD B F noX) listed a w
  | [], listed, st, hcl, hs, h, E0, F, a, w, hI => ⟨by simpa [schedOkM] using hs, st, E0, F, hI, h⟩
  | (i, e) :: rest, listed, st, hcl, hs, h, E0, F, a, w, hI => by
    simp only [schedOkM, Bool.and_eq_true] at hs
    obtain ⟨⟨hri, hse⟩, hsr⟩ := hs
    have hri : i ∈ Region.ready .any ops listed := by simpa using hri
    have hcl' := hcl.step hri
    have hmore : ∀ j, (j, Mb.act) ∈ rest → (j, Mb.act) ∈ (i, e) :: rest := fun j hj => List.mem_cons_of_mem _ hj
    unfold vcDb at h
    split at h
    · exact h.elim
    · rename_i o ho
      have ho : ops[i]? = some o := by simpa using ho
      split at h
      · exact h.elim
      · rename_i hd
        obtain ⟨fr', hI1, hg⟩ := vcGuard.ok h hI
        cases e with
        | rd =>
          simp only [Bool.and_eq_true, Bool.or_eq_true] at hse
          obtain ⟨hse, hah⟩ := hse
          rcases hah with hah | hmv
          · rcases hg with ⟨hw, hrun⟩ | ⟨hw, hskip⟩
            · simp only at hrun
              split at hrun
              · rename_i φ hφ
                obtain ⟨v, x, hv1, hv2, hk⟩ := rd_ok hE hF hφ hrun hI1
                refine DB.more hmore _ _ _ _ _ ?_
                refine DB.first ho (Region.noSelect_spec hsel) (aheadC_ok hah) _ _ listed a w hcl (Region.free_spec ho hse) hri (.inl ⟨hw, fun w' hp => hv1 w' hp⟩) (v := x) ?_
                exact vcDb.okM hE hF hsel rest _ _ hcl' hsr hk E0 F _ w (hI1.updV hv2 hd)
              · exact hrun.elim
            · refine DB.more hmore _ _ _ _ _ ?_
              refine DB.first ho (Region.noSelect_spec hsel) (aheadC_ok hah) _ _ listed a w hcl (Region.free_spec ho hse) hri (.inr ⟨hw, rfl⟩) ?_
              exact vcDb.okM hE hF hsel rest _ _ hcl' hsr hskip E0 F _ w (hI1.updV unit_den hd)
          · obtain ⟨y, hy⟩ := isMv_spec hmv ho
            rcases hg with ⟨hw, hrun⟩ | ⟨hw, hskip⟩
            · simp only at hrun
              split at hrun
              · rename_i φ hφ
                obtain ⟨v, x, hv1, hv2, hk⟩ := rd_ok hE hF hφ hrun hI1
                have hxe : x = a.eval y := by
                  have h1 := (mv_run (P := P) (a := a) hy w).symm.trans (hv1 w (Prot.refl _ _))
                  injection h1 with h1 _
                  injection h1 with h1
                  exact h1.symm
                refine DB.more hmore _ _ _ _ _ ?_
                refine DB.firstM ho (Region.noSelect_spec hsel) _ (DD B F noX) listed a w hcl (Region.free_spec ho hse) hri (.inl ⟨hw, fun w' => by rw [hxe]; exact mv_run hy w'⟩) (v := x) ?_
                exact vcDb.okM hE hF hsel rest _ _ hcl' hsr hk E0 F _ w (hI1.updV hv2 hd)
              · exact hrun.elim
            · refine DB.more hmore _ _ _ _ _ ?_
              refine DB.firstM ho (Region.noSelect_spec hsel) _ (DD B F noX) listed a w hcl (Region.free_spec ho hse) hri (.inr ⟨hw, rfl⟩) ?_
              exact vcDb.okM hE hF hsel rest _ _ hcl' hsr hskip E0 F _ w (hI1.updV unit_den hd)
        | sole =>
          simp only [List.all_eq_true] at hse
          refine ⟨(fun h0 => by rw [h0] at hri; cases hri), fun j hj => ?_⟩
          have hji : j = i := Nat.eq_of_beq_eq_true (hse j hj)
          subst hji
          refine ⟨o, ho, ?_⟩
          unfold stepD resOf
          rcases hg with ⟨hw, hrun⟩ | ⟨hw, hskip⟩
          · rw [if_pos hw]
            simp only at hrun
            split at hrun
            · rename_i φ hφ
              obtain ⟨v, x, hv1, hv2, hk⟩ := rd_ok hE hF hφ hrun hI1
              rw [hv1 w (Prot.refl _ _)]
              exact ⟨DD B F noX, .inr ⟨Prot.refl _ _, fun _ _ h => h⟩, DB.more hmore _ _ _ _ _ <| vcDb.okM hE hF hsel rest _ _ hcl' hsr hk E0 F _ w (hI1.updV hv2 hd)⟩
            · exact hrun.elim
          · rw [if_neg (by rw [hw]; simp)]
            exact ⟨DD B F noX, .inr ⟨Prot.refl _ _, fun _ _ h => h⟩, DB.more hmore _ _ _ _ _ <| vcDb.okM hE hF hsel rest _ _ hcl' hsr hskip E0 F _ w (hI1.updV unit_den hd)⟩
        | fresh =>
          simp only [List.all_eq_true] at hse
          refine ⟨(fun h0 => by rw [h0] at hri; cases hri), fun j hj => ?_⟩
          have hji : j = i := Nat.eq_of_beq_eq_true (hse j hj)
          subst hji
          refine ⟨o, ho, ?_⟩
          unfold stepD
          rcases hg with ⟨hw, hrun⟩ | ⟨hw, hskip⟩
          · rw [if_pos hw]
            refine (vcOp.ev hE hF hrun E0 F a w hI1).mono ?_
            rintro x w' ⟨v, st2, E', F', hn, hv, hI', hp, hdd, hk⟩
            exact ⟨DD B F' noX, .inr ⟨hp, hdd⟩, DB.more hmore _ _ _ _ _ <| vcDb.okM hE hF hsel rest _ _ hcl' hsr hk E' F' _ w' (hI'.updV hv (by rw [hn]; exact hd))⟩
          · rw [if_neg (by rw [hw]; simp)]
            exact ⟨DD B F noX, .inr ⟨Prot.refl _ _, fun _ _ h => h⟩, DB.more hmore _ _ _ _ _ <| vcDb.okM hE hF hsel rest _ _ hcl' hsr hskip E0 F _ w (hI1.updV unit_den hd)⟩
        | act =>
          simp only [List.all_eq_true] at hse
          refine ⟨(fun h0 => by rw [h0] at hri; cases hri), fun j hj => ?_⟩
          have hji : j = i := Nat.eq_of_beq_eq_true (hse j hj)
          subst hji
          refine ⟨o, ho, ?_⟩
          unfold stepD
          rcases hg with ⟨hw, hrun⟩ | ⟨hw, hskip⟩
          · rw [if_pos hw]
            refine (vcOp.ev hE hF hrun E0 F a w hI1).mono ?_
            rintro x w' ⟨v, st2, E', F', hn, hv, hI', hp, hdd, hk⟩
            exact ⟨DD B F' noX, .inl (by simp), DB.more hmore _ _ _ _ _ <| vcDb.okM hE hF hsel rest _ _ hcl' hsr hk E' F' _ w' (hI'.updV hv (by rw [hn]; exact hd))⟩
          · rw [if_neg (by rw [hw]; simp)]
            exact ⟨DD B F noX, .inr ⟨Prot.refl _ _, fun _ _ h => h⟩, DB.more hmore _ _ _ _ _ <| vcDb.okM hE hF hsel rest _ _ hcl' hsr hskip E0 F _ w (hI1.updV unit_den hd)⟩
def autoF (fs : List Nat) (ops : Array Oper) : Nat → Array Bool → List (Nat × Mb)
  | 0, _ => []
  | n + 1, listed => match Region.ready .any ops listed with
    | [] => []
    | [i] => (i, (match ops[i]? with
      | some o => (match isRd o.op with
        | true => Mb.sole
        | false => (match isFresh o.op || memN i fs with
          | true => Mb.fresh
          | false => Mb.act))
      | none => Mb.act)) :: autoF fs ops n (listed.setIfInBounds i true)
    | rs => match pickRd ops listed rs with
      | some i => (i, Mb.rd) :: autoF fs ops n (listed.setIfInBounds i true)
      | none => []
theorem CodeEv.drawF {B : Base} {P : Program} {E : TEnv} (hE : TOk P E) (hF : FOk P E) {id : Nat} {ops : Array Oper} {st : St} {Q : Exit → St → Prop} (hm : P.follows .mixedOrders = true) (X : Nat → Bool) (fs : List Nat)
    (hl : (autoF fs ops ops.size (Array.replicate ops.size false)).length = ops.size) (hsel : Region.noSelect ops = true) (hs : schedOkM ops (Array.replicate ops.size false) (autoF fs ops ops.size (Array.replicate ops.size false)) = true)
    (h : VcDrawB B P E X ops.toList (autoF fs ops ops.size (Array.replicate ops.size false)) st (Q .normal)) : CodeEv B P (.region id ops true) st Q := by
  intro E0 F a w hI
  refine wpIn_region_any hm ?_
  have hI2 : Inv B st E0 F a { w with drawn := w.drawn + 1 } := hI.world ⟨rfl, rfl, rfl, Nat.le_refl _, fun _ _ _ => rfl⟩
  refine DB.any (A := fun j => (j, Mb.act) ∈ autoF fs ops ops.size (Array.replicate ops.size false)) (Q := fun a w => ∃ st E F, Inv B st E F a w ∧ Q .normal st) (fun a w h => h) _ (DD B F noX) _ _ _ ?_
  have hcl : Closed ops (Array.replicate ops.size false) := fun k ok hk hl => by
    have hlt := (Array.getElem?_eq_some_iff.1 hk).1
    simp [hlt] at hl
  have hfin := vcDb.okM hE hF hsel _ _ st hcl hs (h _ _ _ _ _ _ _ _ _ _ _ _ _ _ _ _ _ _ _ _ _ _ _ ArEq.std _ _ _ _ _ _ _ _ _ _ LrEq.std _ (fun _ _ _ _ h => h) _ (fun _ _ _ _ _ h => h) _ (fun _ _ _ h => h) _ (fun _ h => h)) E0 F a _ hI2
  rw [hl] at hfin
  exact hfin
theorem CodeEv.drawL {B : Base} {P : Program} {E : TEnv} (hE : TOk P E) (hF : FOk P E) {id : Nat} {ops : Array Oper} {st : St} {Q : Exit → St → Prop} (hm : P.follows .mixedOrders = true) (X : Nat → Bool) (l : List (Nat × Mb))
    (hl : l.length = ops.size) (hsel : Region.noSelect ops = true) (hs : schedOkM ops (Array.replicate ops.size false) l = true)
    (h : VcDrawB B P E X ops.toList l st (Q .normal)) : CodeEv B P (.region id ops true) st Q := by
  intro E0 F a w hI
  refine wpIn_region_any hm ?_
  have hI2 : Inv B st E0 F a { w with drawn := w.drawn + 1 } := hI.world ⟨rfl, rfl, rfl, Nat.le_refl _, fun _ _ _ => rfl⟩
  refine DB.any (A := fun j => (j, Mb.act) ∈ l) (Q := fun a w => ∃ st E F, Inv B st E F a w ∧ Q .normal st) (fun a w h => h) _ (DD B F noX) _ _ _ ?_
  have hcl : Closed ops (Array.replicate ops.size false) := fun k ok hk hl => by
    have hlt := (Array.getElem?_eq_some_iff.1 hk).1
    simp [hlt] at hl
  have hfin := vcDb.okM hE hF hsel _ _ st hcl hs (h _ _ _ _ _ _ _ _ _ _ _ _ _ _ _ _ _ _ _ _ _ _ _ ArEq.std _ _ _ _ _ _ _ _ _ _ LrEq.std _ (fun _ _ _ _ h => h) _ (fun _ _ _ _ _ h => h) _ (fun _ _ _ h => h) _ (fun _ h => h)) E0 F a _ hI2
  rw [hl] at hfin
  exact hfin
theorem ConvW.trimK {B : Base} {st : St} (t j : Nat) {T : TypeId} {sz n m : Nat} {xs : List PV} (ht : look st.fr t = some (.vw j sz 0 n (some m))) (hj : st.own[j]? = some (.arr T sz xs)) (hnm : n ≤ m) (ht2 : t < st.n) :
    ConvW B st ⟨st.n, (t, .vw j sz 0 n none) :: frMap (V.kill j) st.fr, (st.own.map (Res.map (V.kill j))).set j (.arr T sz (xs.take n))⟩ := by
  refine ⟨rfl, fun E F a w hI => ?_⟩
  have hjl := lt_of_some hj
  let E' : Ev := ⟨E.n, E.ρ, fun x => if x = j then m else E.κ x, E.nl, fun x => if x = j then (xs.take n).length else E.len x, E.sz⟩
  have hat : ∀ x, x ≠ j → E.At E' x := fun x hx => ⟨rfl, by simp only [E', if_neg hx], rfl, by simp only [E', if_neg hx], rfl⟩
  have hh := hI.held j _ hj
  obtain ⟨g0, g1, g2, g3, g4⟩ := hh
  have hd := hI.slot t _ ht
  obtain ⟨x, hxe⟩ : ∃ x, x = a.tmps.getD t undef := ⟨_, rfl⟩
  rw [← hxe] at hd
  have hnk : E.nl j = false → m ≤ E.κ j := by
    intro hnl
    cases hd with
    | vwn _ _ _ a h h0 hz hc => rw [hnl] at h0; cases h0
    | vw _ _ _ _ _ a c h h0 hc hk hln hx hz ha =>
      have : 0 + c = m := by simpa using hc
      omega
  have hle := hI.le (F' := F) (keepsNone (Keeps.refl _ w)) (fun i k h => .inl h)
  have hwf' : Wf sz (xs.take n) := g1.take
  have h1 := hI.set (E' := E') (F' := F) (f := V.kill j) (r := .arr T sz (xs.take n)) hjl (Keeps.refl _ w) rfl (fun x _ hx => hat x hx) (fun T c h _ => by rw [hj] at h; cases h) (fun _ _ => rfl) (fun k h => .inl h)
    (fun c v hc => V.Den.kill (E := E) (E' := E') hle (Nat.le_refl _) (fun i _ hi => hat i hi) hc) (by
      refine ⟨g0, hwf', by simp only [E', if_true], g3, ?_⟩
      rcases g4 with ⟨k1, k2, k3⟩ | ⟨k1, k2, k3, k4, c, k5, k6, val, k7⟩
      · exact .inl ⟨k1, by rw [k2]; simp, k3⟩
      · have hnk := hnk k1
        refine .inr ⟨k1, k2, by simp only [E', if_true]; simp; omega, by simp only [E', if_true]; exact Nat.le_trans hnk k4, c, k5, by simp only [E', if_true]; exact Nat.le_trans (Nat.mul_le_mul_right _ hnk) k6, val, fun j' u hu => ?_⟩
        rw [flat_take g1] at hu
        rw [List.getElem?_take] at hu
        split at hu
        · exact k7 j' u hu
        · cases hu)
  have hden : V.Den ⟨nowM B F, w⟩ E' (.vw j sz 0 n none) x := by
    cases hd with
    | vwn _ _ _ a h h0 hz hc => exact .vwn j sz none a h h0 hz rfl
    | vw _ _ _ _ _ a c h h0 hc hk hln hx2 hz ha =>
      have hcn : c = m := by simpa using hc
      exact .vw j sz 0 n none a c h h0 (by simp only [E', if_true, Option.getD_none]; omega) (by simp only [E', if_true]; omega) hln (by simp only [E', if_true]; simp; omega) hz ha
  refine ⟨E', F, ⟨h1.n, h1.en, fun s v hs => ?_, h1.defers, h1.held, h1.apart, h1.low, h1.keep, h1.fresh, h1.olen, h1.pin, h1.bd, h1.low0, h1.rc⟩⟩
  rw [look_cons] at hs
  split at hs
  · rename_i e; subst e; cases hs; rw [← hxe]; exact hden
  · exact h1.slot s v hs
end Go.Lx
