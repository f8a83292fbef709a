/- A tape's calls: Add, Sync, Replace, Fail, Bytes, Loose. Conditions: on sizes. -/
import Derived.Test.YtnigonhkfpnodaaLTape1
set_option maxRecDepth 100000
set_option maxHeartbeats 4000000
set_option linter.unusedSimpArgs false
set_option linter.unusedVariables false
namespace Go.Proofs.Ytnigonhkfpnodaa
open Go Go.Lx
open Go.Sx (vcIf)

def tpAdd (t : Tp) (b : List UInt8) : Nat × Tp := if (wr t (t.all.length + b.length)).1 = 0 then (0, { (wr t (t.all.length + b.length)).2 with all := t.all ++ b }) else wr t (t.all.length + b.length)
def tpSync (t : Tp) : Nat × Tp := if (wr t 0).1 = 0 then (0, { (wr t 0).2 with sure := t.all.length }) else wr t 0
def tpRep (t : Tp) (b : List UInt8) : Nat × Tp := if (wr t b.length).1 = 0 then (0, { (wr t b.length).2 with all := b, sure := b.length }) else wr t b.length
def tpFail (t : Tp) (k : Int) : Tp := { t with after := if k > -1 then k else -1 }
theorem wr_ok {t : Tp} {s : Nat} (h : (wr t s).1 = 0) : s ≤ t.room ∧ t.down = false ∧ (wr t s).2.all = t.all ∧ (wr t s).2.sure = t.sure ∧ (wr t s).2.room = t.room ∧ (wr t s).2.down = t.down := by
  unfold wr at h ⊢
  cases hd : t.down with
  | true => rw [hd] at h; simp at h
  | false =>
    rw [hd] at h
    simp only [Bool.false_eq_true, if_false] at h ⊢
    split at h
    · simp at h
    split at h
    · simp at h
    rename_i h1 h2
    rw [if_neg h1, if_neg h2]
    split <;> simp_all
theorem wr_same (t : Tp) (s : Nat) : (wr t s).2.all = t.all ∧ (wr t s).2.sure = t.sure ∧ (wr t s).2.room = t.room := by
  unfold wr; split
  · simp
  split
  · simp
  split
  · simp
  split <;> simp

theorem replace_spec {t : Tp} {n : Nat} {su ro af : Int} {d : Bool} {xs : List PV} (ht : IsTp t n su ro af d xs) (b : List UInt8) (hb : b.length < 9223372036854775807) :
    FnL Try.prog 72 [.own 0 0, .p (.sl (bP b))] [tpS n su ro af d, tpA xs] fun v own => ∃ (e : Int) (n' : Nat) (su' ro' af' : Int) (d' : Bool) (xs' : List PV), e = ((tpRep t b).1 : Int) ∧ IsTp (tpRep t b).2 n' su' ro' af' d' xs' ∧ v = .p (.int .i64 e) ∧ own = [tpS n' su' ro' af' d', tpA xs'] := by
  have ht0 := ht
  obtain ⟨W, hW⟩ : ∃ W, W = wr t b.length := ⟨_, rfl⟩
  have hok := wr_ok (t := t) (s := b.length)
  have hsame := wr_same t b.length
  rw [← hW] at hsame hok
  have hadd : tpRep t b = if W.1 = 0 then (0, { W.2 with all := b, sure := b.length }) else W := by unfold tpRep; rw [← hW]
  obtain ⟨h1, h2, h3, h4, h5, h6, h7, h8, h9, h10, h11⟩ := ht
  obtain ⟨bs, hbs⟩ : ∃ bs, bs = bP b := ⟨_, rfl⟩
  obtain ⟨m, hm⟩ : ∃ m, m = b.length := ⟨_, rfl⟩
  have hbl : bs.length = m := by rw [hbs, bP_length, hm]
  have hbw : Wf 1 bs := by rw [hbs]; exact bP_wf b
  rw [← hbs]
  refine fn_of_vc eOk fOk fo72 Try.func72 rfl rfl rfl fun B hB => ?_
  intro add sub mul quo rem band bor bxor bclr shl shr ieq ilt ile seq slt beq bnot orb bcond iwrap iof ssz hA cat sq sl imin imax smin smax len slen u8 hL op hop call hcall code hcode ret hret
  have hl : len bs = (b.length : Int) := by rw [hL.len, hbl, hm]
  have hwr := write_spec ht0 _ _ hl
  rw [← hW] at hwr
  have hfin : ∀ af' d', W.1 = 0 → IsTp W.2 n su ro af' d' xs → IsTp (tpRep t b).2 m (len bs) ro af' d' bs := by
    intro af' d' c hI
    obtain ⟨g1, g2, g3, g4, g5, g6, g7, g8, g9, g10, g11⟩ := hI
    have := hok c
    rw [hadd, if_pos c]
    refine ⟨hm, hl, g3, g4, g5, hbs, Nat.le_refl _, ?_, g9, g10, g11⟩
    simp only; omega
  have hfin1 : W.1 = 0 → (tpRep t b).1 = 0 := fun c => by rw [hadd, if_pos c]
  have hfin2 : W.1 ≠ 0 → tpRep t b = W := fun c => by rw [hadd, if_neg c]
  cbv
  refine hcall _ _ _ _ _ (CallEv.lend [0, 1] hwr rfl (.cons (.own 0 0 0 rfl) (.cons (.p _) .nil)) (tpL rfl rfl rfl rfl) ?_)
  rintro _ _ ⟨e, af', d', he, ht', rfl, rfl⟩
  cbv
  by_cases h0 : W.1 = 0
  · refine vcIf.no (by rw [hA.not, hA.eq, he, h0]; rfl) ?_
    have hI := hfin _ _ h0 ht'
    have h1' := hfin1 h0
    have hcl := bclone_spec bs m hbl hbw (by have := hok h0; omega)
    cbv
    refine hcall _ _ _ _ _ (CallEv.same hcl rfl ?_)
    rintro _ _ ⟨rfl, rfl⟩
    cbv
    exact hret _ (RetEv.convW (ConvW.pack [0, 2] hB rfl) (RetEv.ret eOk rfl ⟨0, _, _, ro, af', d', _, by rw [h1']; rfl, hI, rfl, rfl⟩))
  · refine vcIf.yes (by rw [hA.not, hA.eq, he]; simpa using h0) ?_
    cbv
    exact hret _ (RetEv.ret eOk rfl ⟨e, n, su, ro, af', d', xs, by rw [hfin2 h0]; exact he, by rw [hfin2 h0]; exact ht', rfl, rfl⟩)
theorem replace_nil (xs : List PV) : FnL Try.prog 72 [.p .nilp, .p (.sl xs)] [] fun v own => v = .p (.int .i64 1) ∧ own = [] := by
  refine fn_of_vc eOk fOk fo72 Try.func72 rfl rfl rfl fun B hB => ?_
  intro add sub mul quo rem band bor bxor bclr shl shr ieq ilt ile seq slt beq bnot orb bcond iwrap iof ssz hA cat sq sl imin imax smin smax len slen u8 hL op hop call hcall code hcode ret hret
  cbv
  refine hcall _ _ _ _ _ (CallEv.same (write_nil _) rfl ?_)
  rintro _ _ ⟨rfl, rfl⟩
  cbv
  refine vcIf.yes (by rw [hA.not, hA.eq]; rfl) ?_
  cbv
  exact hret _ (RetEv.ret eOk rfl ⟨rfl, rfl⟩)

theorem fail_spec {t : Tp} {n : Nat} {su ro af : Int} {d : Bool} {xs : List PV} (ht : IsTp t n su ro af d xs) (k : Int) (hk : k ≤ 9223372036854775807) :
    FnL Try.prog 20 [.own 0 0, .p (.int .i64 k)] [tpS n su ro af d, tpA xs] fun v own => ∃ (af' : Int), IsTp (tpFail t k) n su ro af' d xs ∧ own = [tpS n su ro af' d, tpA xs] := by
  obtain ⟨h1, h2, h3, h4, h5, h6, h7, h8, h9, h10, h11⟩ := ht
  refine fn_of_vc eOk fOk fo20 Try.func20 rfl rfl rfl fun B hB => ?_
  intro add sub mul quo rem band bor bxor bclr shl shr ieq ilt ile seq slt beq bnot orb bcond iwrap iof ssz hA cat sq sl imin imax smin smax len slen u8 hL op hop call hcall code hcode ret hret
  have hm : IsTp (tpFail t k) n su ro (imax k (-1)) d xs := by
    refine ⟨h1, h2, h3, ?_, h5, h6, h7, h8, h9, ?_, ?_⟩
    · show imax k (-1) = if k > -1 then k else -1
      rw [hL.imax]; split <;> split <;> omega
    · show -1 ≤ if k > -1 then k else -1
      split <;> omega
    · show (if k > -1 then k else -1) ≤ _
      split <;> omega
  cbv
  refine vcIf.yes (by rw [hA.not]; rfl) ?_
  cbv
  exact hret _ (RetEv.ret eOk rfl ⟨_, hm, rfl⟩)
theorem fail_nil (k : Int) : FnL Try.prog 20 [.p .nilp, .p (.int .i64 k)] [] fun v own => own = [] := by
  refine fn_of_vc eOk fOk fo20 Try.func20 rfl rfl rfl fun B hB => ?_
  intro add sub mul quo rem band bor bxor bclr shl shr ieq ilt ile seq slt beq bnot orb bcond iwrap iof ssz hA cat sq sl imin imax smin smax len slen u8 hL op hop call hcall code hcode ret hret
  cbv
  refine vcIf.no (by rw [hA.not]; rfl) ?_
  cbv
  exact hret _ (RetEv.ret eOk rfl rfl)

theorem bytes_spec {t : Tp} {n : Nat} {su ro af : Int} {d : Bool} {xs : List PV} (ht : IsTp t n su ro af d xs) :
    FnL Try.prog 69 [.own 0 0] [tpS n su ro af d, tpA xs] fun v own => ∃ (e : Int) (ys : List PV) , e = (if t.down then 11 else 0) ∧ ys = bP (if t.down then [] else t.all) ∧ (v = .p (.tup [.sl ys, .int .i64 e]) ∧ own = [tpS n su ro af d, tpA xs, .dead] ∨ ys = [] ∧ v = .p (.tup [.nils, .int .i64 e]) ∧ own = [tpS n su ro af d, tpA xs]) := by
  obtain ⟨h1, h2, h3, h4, h5, h6, h7, h8, h9, h10, h11⟩ := ht
  have hxl : xs.length = n := by rw [h6, bP_length, h1]
  rw [← h5]
  refine fn_of_vc eOk fOk fo69 Try.func69 rfl rfl rfl fun B hB => ?_
  intro add sub mul quo rem band bor bxor bclr shl shr ieq ilt ile seq slt beq bnot orb bcond iwrap iof ssz hA cat sq sl imin imax smin smax len slen u8 hL op hop call hcall code hcode ret hret
  cbv
  refine hcall _ _ _ _ _ (CallEv.lend [0, 1] (ready_spec (n := n) (su := su) (ro := ro) (af := af) (d := d) (xs := xs)) rfl (.cons (.own 0 0 0 rfl) .nil) (tpL rfl rfl rfl rfl) ?_)
  rintro _ _ ⟨rfl, rfl⟩
  cases d with
  | true =>
    cbv
    refine vcIf.yes (by rw [hA.not, hA.eq]; rfl) ?_
    cbv
    exact hret _ (RetEv.ret eOk rfl ⟨11, [], rfl, rfl, .inr ⟨rfl, rfl, rfl⟩⟩)
  | false =>
    have hcl := bclone_spec xs n hxl (by rw [h6]; exact bP_wf _) (by omega)
    cbv
    refine vcIf.no (by rw [hA.not, hA.eq]; rfl) ?_
    cbv
    refine hcall _ _ _ _ _ (CallEv.shown [] [1] hcl rfl (.cons (.bvw 1 1 0 n none 5 1 xs xs (by simp) rfl (by rw [frz_full hxl])) .nil) trivial ?_)
    rintro _ _ ⟨rfl, rfl⟩
    refine ⟨.vw _ _ _ _ _, fun r hr => ?_, ?_⟩
    · simp only [List.mem_singleton] at hr
      rw [hr, h6]; exact bP_Flat _
    cbv
    refine hret _ (RetEv.retF eOk rfl 2 rfl (by rw [hB]; exact Nat.le_refl _) ⟨0, xs, rfl, h6, .inl ⟨?_, rfl⟩⟩)
    show V.p (.tup [.sl ((xs.drop 0).take n), .int .i64 0]) = _
    rw [frz_full hxl]

theorem bytes_nil : FnL Try.prog 69 [.p .nilp] [] fun v own => v = .p (.tup [.nils, .int .i64 1]) ∧ own = [] := by
  refine fn_of_vc eOk fOk fo69 Try.func69 rfl rfl rfl fun B hB => ?_
  intro add sub mul quo rem band bor bxor bclr shl shr ieq ilt ile seq slt beq bnot orb bcond iwrap iof ssz hA cat sq sl imin imax smin smax len slen u8 hL op hop call hcall code hcode ret hret
  cbv
  refine hcall _ _ _ _ _ (CallEv.same ready_nil rfl ?_)
  rintro _ _ ⟨rfl, rfl⟩
  cbv
  refine vcIf.yes (by rw [hA.not, hA.eq]; rfl) ?_
  cbv
  exact hret _ (RetEv.ret eOk rfl ⟨rfl, rfl⟩)

end Go.Proofs.Ytnigonhkfpnodaa
