/- A calculus of logical values, part 31: bytes of a text written into an own row; a row let be as a text. No conditions. -/
import Derived.Test.YtocmeaamaecgeaaLEnv
import Derived.Lib.UnsafeStr
set_option linter.unusedSimpArgs false
set_option linter.unusedVariables false
namespace Go.Lx
open Go
open Go.Sx (NP Keeps Hp Keep0 TI TEnv TOk Kd resOf)

theorem run_copyGS {P : Program} (w : World) (dT sT ty elem : TypeId) {i : TypeInfo} (ad : Option Addr) (dLen dCap : Nat) (bs : List UInt8) (m : Nat) (cs : List Value) {w' : World}
    (hu : P.underlying dT = some (.slice elem)) (hi : P.info? elem = some i) (hm : Nat.min bs.length dLen = m)
    (hc : cs = (bs.take m).map fun b => Value.int .u8 (b.toNat : Int)) (hs : ∀ a, ad = some a → (storeCells a cs).run P w = .ok () w') (hn : ad = none → w' = w) :
    (Builtin.copy_ #[dT, sT] ty #[.slice ad dLen dCap, .string ⟨bs.toArray⟩]).run P w = .ok (goInt m) w' := by
  have hf : (Builtin.firstCells i.size m (.string ⟨bs.toArray⟩)).run P w = .ok cs.toArray w := by
    rw [hc]
    simp only [Builtin.firstCells, Sem.run_pure]
    congr 1
    apply Array.ext'
    have e : (ByteArray.extract ⟨bs.toArray⟩ 0 m).data.toList = bs.take m := by
      rw [ByteArray.data_extract]; simp
    simp [e]
  have hl : (Builtin.lenOf (.string ⟨bs.toArray⟩)).run P w = .ok bs.length w := by
    simp [Builtin.lenOf, ByteArray.size]
  cases ad with
  | none =>
    have := hn rfl; subst this
    simp [Builtin.copy_, run_underlying hu, sizeOf, typeInfo, hi, hl, hm, hf]
  | some a => simp [Builtin.copy_, run_underlying hu, sizeOf, typeInfo, hi, hl, hm, hf, hs a rfl]

theorem OpEv.copyS {B : Base} {P : Program} {TE : TEnv} (hE : TOk P TE) {o : Oper} {dT sT e : TypeId} {d s : Operand} {td te : TI} (ho : o.op = .call { callee := .builtin .copy, args := #[d, s], argTypes := #[dT, sT] })
    (htd : TE.get dT = some td) (hkd : td.kd = .slice e) (hte : TE.get e = some te) {X : Nat → Bool} {st : St} {k : V → St → Prop} {j off n : Nat} {cap : Option Nat} {T : TypeId} {xs : List PV}
    (hd : ev st.fr d = some (.vw j te.size off n cap)) (hj : st.own[j]? = some (.arr T te.size xs)) (hX : X j = true) {bs : List UInt8} (h1sz : te.size = 1) (hs : ev st.fr s = some (.p (.str bs)))
    (hk : ∀ m zs, m = Nat.min bs.length n → zs = xs.take off ++ ((bP bs).take m ++ xs.drop (off + m)) → k (.p (.int .i64 (Int.ofNat m))) ⟨st.n, st.fr, st.own.set j (.arr T te.size zs)⟩) : OpEv B P o X st k := by
  intro E F a w hI
  obtain ⟨i1, d1, h1⟩ := hE.get htd
  obtain ⟨i2, d2, h2⟩ := hE.get hte
  have hd1 := kd_slice h1 hkd
  subst hd1
  have hjl := lt_of_some hj
  obtain ⟨g0, g1, g2, g3, g4⟩ := hI.held j _ hj
  have hsv := (hI.ev hs).str_inv
  obtain ⟨ys, hys⟩ : ∃ ys, ys = bP bs := ⟨_, rfl⟩
  have hyl : bs.length = ys.length := by rw [hys, bP_length]
  have hw : Wf te.size ys := by rw [hys, h1sz]; exact bP_wf bs
  rw [← hys, hyl] at hk
  obtain ⟨m, hm⟩ : ∃ m, m = Nat.min ys.length n := ⟨_, rfl⟩
  obtain ⟨zs, hzs⟩ : ∃ zs, zs = xs.take off ++ (ys.take m ++ xs.drop (off + m)) := ⟨_, rfl⟩
  replace hk := hk m zs hm hzs
  have hmy : m ≤ ys.length := by rw [hm]; exact Nat.min_le_left _ _
  have hmn : m ≤ n := by rw [hm]; exact Nat.min_le_right _ _
  have run : ∀ {vs : Value} {w' : World}, a.eval d = vs → (Builtin.copy_ #[dT, sT] o.type #[vs, .string ⟨bs.toArray⟩]).run P w = .ok (goInt m) w' → (execOp a.eval o).run P w = .ok (.value (goInt m)) w' := by
    intro vs w' hvs hr
    rw [← hvs] at hr
    simp only [execOp, ho, resolve, invoke, Go.builtin, Sem.run_bind, Sem.run_pure, Result.andThen_ok, List.map_toArray, List.map_cons, List.map_nil, hsv, hr]
  have hv := hI.ev hd
  generalize hvv : a.eval d = vv at hv
  have zero : m = 0 → ∀ {da : Option Addr} {dl dc : Nat}, vv = .slice da dl dc → dl = n → resOf P o a w (PostS B st F a w X k) := by
    intro hm0 da dl dc hvd hdl
    subst hdl
    have hxs : zs = xs := by rw [hzs, hm0]; simp
    have hset : st.own.set j (.arr T te.size zs) = st.own := by
      rw [hxs]
      obtain ⟨hlt, hee⟩ := List.getElem?_eq_some_iff.1 hj
      rw [← hee]; exact List.set_getElem_self hlt
    rw [hset] at hk
    refine resOf_value (x := goInt m) (w' := w) (run hvv ?_) ?_
    · rw [hvd]
      refine run_copyGS w dT sT o.type e da dl dc bs m [] h1.und h2.info (by rw [hyl]; exact hm.symm) (by rw [hm0]; rfl) (fun a _ => by simp [storeCells]) (fun _ => rfl)
    · exact (Post.of (k := fun v own f => k v ⟨st.n, frMap f st.fr, own⟩) (f := fun v => v) hI (by rw [frMap_id]; exact hI) (keepsNone (Keeps.refl _ w)) (fun i q h => .inl h) (fun i q _ h => h) V.Den.int (by rw [frMap_id]; exact hk)).s
  cases hv with
  | vwn _ _ _ da h h0 hz hc => exact zero (by omega) rfl rfl
  | vw _ _ _ _ _ da dc h h0 hc hkk hln hxx hz ha =>
    by_cases hm0 : m = 0
    · exact zero hm0 rfl rfl
    have hda : da = ⟨E.ρ j, off * te.size, none⟩ := ha.resolve_right (by omega)
    subst hda
    rcases g4 with ⟨k1, _, _⟩ | ⟨_, hF, hl1, hl2, cc, hcc, hcs, val, hval⟩
    · rw [h0] at k1; cases k1
    obtain ⟨vs, hvs⟩ : ∃ vs, vs = bs.map fun b => Value.int .u8 (b.toNat : Int) := ⟨_, rfl⟩
    have hvl : vs.length = (flat ys).length := by rw [hvs, hys, bP_flat, bP_length, List.length_map]
    have hvd : ∀ (q : Nat) (u : PV) (v : Value), (flat ys)[q]? = some u → vs[q]? = some v → PV.Den ⟨nowM B F, w⟩ u v := by
      intro q u v hu hv
      rw [hys, bP_flat, bP_eq, List.getElem?_map] at hu
      rw [hvs, List.getElem?_map] at hv
      cases hb : bs[q]? with
      | none => rw [hb] at hu; cases hu
      | some b => rw [hb] at hu hv; cases hu; cases hv; exact .int _ _
    have hfm : flat (ys.take m) = (flat ys).take (m * te.size) := flat_take hw m
    have hwm : Wf te.size (ys.take m) := hw.take
    have hlm : (flat (ys.take m)).length = m * te.size := by rw [flat_length hwm]; simp; rw [Nat.min_eq_left hmy]
    have hly : (flat ys).length = ys.length * te.size := flat_length hw
    have hms : m * te.size ≤ ys.length * te.size := Nat.mul_le_mul_right _ hmy
    obtain ⟨cs, hcse⟩ : ∃ cs, cs = vs.take (m * te.size) := ⟨_, rfl⟩
    have hcl : cs.length = m * te.size := by rw [hcse]; simp; omega
    have hcd : ∀ (q : Nat) (u : PV) (v : Value), (flat (ys.take m))[q]? = some u → cs[q]? = some v → PV.Den ⟨nowM B F, w⟩ u v := by
      intro q u v hu hv
      have hq : q < m * te.size := by have := lt_of_some hu; omega
      rw [hfm, List.getElem?_take, if_pos hq] at hu
      rw [hcse, List.getElem?_take, if_pos hq] at hv
      exact hvd q u v hu hv
    have hone : ∀ v ∈ cs, v.oneCell' = true := by
      intro v hv
      obtain ⟨q, hq, he⟩ := List.getElem_of_mem hv
      have hq2 : q < (flat (ys.take m)).length := by rw [hlm, ← hcl]; exact hq
      exact ((hcd q _ v (List.getElem?_eq_getElem hq2) (by rw [List.getElem?_eq_getElem hq, he])).one (flat_one hwm _ (List.getElem_mem hq2))).1
    have hfl : (flat xs).length = xs.length * te.size := flat_length g1
    have hb1 : (off + m) * te.size ≤ xs.length * te.size := Nat.mul_le_mul_right _ (by omega)
    have hb2 : xs.length * te.size ≤ E.κ j * te.size := Nat.mul_le_mul_right _ hl1
    rw [Nat.add_mul] at hb1
    have hst := run_storeCells_at P (E.ρ j) (off * te.size) T cs 0 cc w hcc (by omega) hone
    rw [Nat.add_zero] at hst
    refine resOf_value (x := goInt m) (w' := w.setRow (E.ρ j) (cc.toList.take (off * te.size) ++ cs ++ cc.toList.drop (off * te.size + cs.length)).toArray) (run hvv ?_) ?_
    · refine run_copyGS w dT sT o.type e _ n dc bs m cs h1.und h2.info (by rw [hyl]; exact hm.symm) ?_ (fun a ha => by cases ha; exact hst) (fun h => by cases h)
      rw [hcse, hvs, h1sz, Nat.mul_one, List.map_take]
    have hkeep : Keeps (F j) w (w.setRow (E.ρ j) (cc.toList.take (off * te.size) ++ cs ++ cc.toList.drop (off * te.size + cs.length)).toArray) :=
      ⟨by simp, by simp, by simp, by simp, fun b hb hn => setRow_other w _ b _ fun e => hn ((hF b).2 e)⟩
    have hset := setRow_heap w (E.ρ j) cc (cc.toList.take (off * te.size) ++ cs ++ cc.toList.drop (off * te.size + cs.length)).toArray T (0, 0) hcc
    have hle := hI.le (F' := F) (touch hkeep) (fun i k h => .inl h)
    have hzl : zs.length = xs.length := by rw [hzs]; simp; omega
    have hzf : flat zs = (flat xs).take (off * te.size) ++ flat (ys.take m) ++ (flat xs).drop (off * te.size + (flat (ys.take m)).length) := by
      rw [hzs, flat_append, flat_append, flat_take g1, flat_drop g1, hlm, Nat.add_mul, List.append_assoc]
    have harr : ArrAt ⟨nowM B F, w.setRow (E.ρ j) (cc.toList.take (off * te.size) ++ cs ++ cc.toList.drop (off * te.size + cs.length)).toArray⟩ (E.ρ j) (E.κ j) T te.size zs :=
      ArrAt.write hcs hval (p := off * te.size) (us := flat (ys.take m)) (vs := cs) (by rw [hcl, hlm]) hcd (by omega) (by omega) hzf (by omega) hl2 hle hset
    have hwz : Wf te.size zs := by rw [hzs]; exact Wf.append g1.take (Wf.append hwm g1.drop)
    have hI' := hI.set1 hjl hkeep (r := .arr T te.size zs) ⟨g0, hwz, by omega, g3, .inr ⟨h0, hF, harr⟩⟩ (fun T c h => by rw [hj] at h; cases h)
    exact (Post.of (k := fun v own f => k v ⟨st.n, frMap f st.fr, own⟩) (f := fun v => v) hI (by rw [frMap_id]; exact hI') (hkeep.mono fun b _ c => ⟨j, hX, c⟩) (fun i k h => .inl h) (fun i k _ h => h) V.Den.int (by rw [frMap_id]; exact hk)).s
theorem OpEv.unsafeStr {B : Base} {P : Program} {o : Oper} {pt it e : TypeId} {x y : Operand} (ho : o.op = .call { callee := .builtin .unsafeString, args := #[x, y], argTypes := #[pt, it] }) (hpt : P.underlying pt = some (.pointer e)) (hce : P.cellsOf e = 1)
    {X : Nat → Bool} {st : St} {k : V → St → Prop} {j n : Nat} {xs : List PV} {s : List UInt8} (hx : ev st.fr x = some (.ap j 1 0 0)) (hy : ev st.fr y = some (.p (.int .i64 (Int.ofNat n)))) (hj : st.own[j]? = some (.arr e 1 xs)) (hxs : xs = bP s) (hn : B.own0.length ≤ j) (hlen : n = s.length) (hpos : 0 < n) (hX : X j = true)
    (hk : k (.p (.str s)) ⟨st.n, frMap (V.kill j) st.fr, (st.own.map (Res.map (V.kill j))).set j .dead⟩) : OpEv B P o X st k := by
  intro E F a w hI
  have hjl := lt_of_some hj
  have hv := hI.ev hx
  have hyv := (hI.ev hy).int_inv
  obtain ⟨g0, g1, g2, g3, g4⟩ := hI.held j _ hj
  generalize hvv : a.eval x = vv at hv
  cases hv with
  | ap _ _ _ _ h h0 hz =>
    rcases g4 with ⟨k1, _, _⟩ | ⟨k1, k2, k3, k4, cs, k5, k6, val, k7⟩
    · rw [h0] at k1; cases k1
    have hcell : ∀ (q : Nat) (b : UInt8), s[q]? = some b → cs[q]? = some (Value.int .u8 (b.toNat : Int)) := fun q b hb => by
      have hu : (flat xs)[q]? = some (PV.int .u8 b.toNat) := by rw [hxs, bP_flat, bP_eq, List.getElem?_map, hb]; rfl
      obtain ⟨c1, c2⟩ := k7 q _ hu
      rw [← c2.int_inv]; exact c1
    have hxl : xs.length = n := by rw [hxs, bP_length, hlen]
    let w' := w.freeze ⟨E.ρ j, 0, none⟩ s.length
    have hwo : w'.os = w.os := by simp only [w', World.freeze]; split <;> rfl
    have hwt : w'.tape = w.tape := by simp only [w', World.freeze]; split <;> rfl
    have hwp : w'.output = w.output := by simp only [w', World.freeze]; split <;> rfl
    have hw' : w'.heap = w.heap.modify (E.ρ j) fun | .cells c el (lo, hi) => .cells c el (if lo == hi then (0, 0 + s.length) else (min lo 0, max hi (0 + s.length))) | o => o := by
      simp only [w', World.freeze]; rw [if_neg (by omega)]; rfl
    have hrow : w'.heap[E.ρ j]? = some (.cells cs e (0, 0 + s.length)) := by
      rw [hw', Array.getElem?_modify, if_pos rfl, k5]; rfl
    have hother : ∀ b, b ≠ E.ρ j → w'.heap[b]? = w.heap[b]? := fun b hb => by
      rw [hw', Array.getElem?_modify, if_neg (Ne.symm hb)]
    have hsz : w'.heap.size = w.heap.size := by rw [hw']; simp
    have hkeep : Keeps (F j) w w' := ⟨hwo, hwt, hwp, by rw [hsz]; exact Nat.le_refl _, fun b hb hF => hother b fun c => hF ((k2 b).2 c)⟩
    have hrun : (execOp a.eval o).run P w = .ok (.value (.string ⟨s.toArray⟩)) w' := by
      have hsh : w.shape? (E.ρ j) = some (e, cs.size) := by unfold World.shape?; rw [k5]
      have := Lib.run_unsafeString_row (P := P) w pt it o.type e hpt hce (E.ρ j) cs.size hsh s (by intro c; rw [c] at hlen; simp at hlen; omega) (by omega) (by unfold maxLen at k4; omega) (fun q b hb => by
        rw [Sx.addr_add, cell_of_row w (E.ρ j) _ cs e (0, 0) k5, Nat.zero_add]; exact hcell q b hb)
      have hyv' : a.eval y = .int .i64 s.length := by rw [hyv, hlen]; rfl
      have hvv' : a.eval x = .pointer (some ⟨E.ρ j, 0, none⟩) := by rw [hvv]
      simp only [execOp, ho, resolve, invoke, Go.builtin, Sem.run_bind, Sem.run_pure, Result.andThen_ok, List.map_toArray, List.map_cons, List.map_nil, hvv', hyv', this]
      rfl
    let F' := pushF F j fun _ => False
    have hf : ∀ i b, F' i b → F i b ∨ w.heap.size ≤ b := fun i b h => by
      by_cases hi : i = j
      · subst hi; simp only [F', pushF_self] at h
      · simp only [F', pushF_ne i hi] at h; exact .inl h
    have hle : Hp.Le ⟨nowM B F, w⟩ ⟨nowM B F', w'⟩ := hI.le (F' := F') ⟨hwo, hwt, hwp, by rw [hsz]; exact Nat.le_refl _, fun b hb hF => hkeep.block b hb fun c => hF ⟨j, c⟩⟩ hf
    have hM : ¬ nowM B F' (E.ρ j) := by
      have hFj : F j (E.ρ j) := (k2 _).2 rfl
      rintro (c | ⟨i, c⟩)
      · have h1 := hI.bd _ c
        rcases hI.fresh j _ hFj with h2 | h2
        · exact hI.low0 j hn _ h2
        · omega
      · by_cases hi : i = j
        · subst hi; simp only [F', pushF_self] at c
        · simp only [F', pushF_ne i hi] at c; exact hI.apart i j hi _ c hFj
    have hI' := hI.set (E' := E) (F' := F') (f := V.kill j) (r := .dead) (w' := w') hjl hkeep rfl (fun i _ hi => .refl E i) (fun T c h _ => by rw [hj] at h; cases h) pushF_ne (fun k h => by simp only [F', pushF_self] at h)
      (fun c v hc => V.Den.kill (E := E) (E' := E) hle (Nat.le_refl _) (fun i _ _ => .refl E i) hc) (by intro k; simp only [F', pushF_self]; exact fun h => h)
    have hval : V.Den ⟨nowM B F', w'⟩ E (.p (.str s)) (.string ⟨s.toArray⟩) := .p _ _ (.str s)
    have hpost : PostS B st F a w X k (.string ⟨s.toArray⟩) w' :=
      (Post.of (k := fun v own f => k v ⟨st.n, frMap f st.fr, own⟩) hI hI' ⟨hwo, hwt, hwp, by rw [hsz]; exact Nat.le_refl _, fun b hb hF => hkeep.block b hb fun c => hF ⟨j, hX, c⟩⟩ hf (fun i b hi hb => by
        have : i ≠ j := by rintro rfl; rw [hX] at hi; cases hi
        simp only [F', pushF_ne i this]; exact hb) hval hk).s
    unfold resOf
    rw [hrun]
    exact hpost
end Go.Lx
