/- The document's tape: its crash, and the simplest facts. Conditions: on sizes. -/
import Derived.Test.YtgblimlnkefllaaLTape4
set_option maxRecDepth 100000
set_option maxHeartbeats 4000000
set_option linter.unusedSimpArgs false
set_option linter.unusedVariables false
namespace Go.Proofs.Ytgblimlnkefllaa
open Go Go.Lx
open Go.Sx (vcIf)

theorem crash_all {t : Tp} {sr ls : List UInt8} {ro lf : Int} {d : Bool} (ht : IsRt t sr ls ro lf d) {keep : Int} {k : Nat} (hk : k = if 0 < keep then keep.toNat else 0) (hl : ls.length ≤ k) (turn : UInt8) : IsRt (tpCrash t keep turn) (sr ++ ls) [] ro (-1) false := by
  obtain ⟨h1, h2, h3, h4, h5, h8, h9, h10, h11⟩ := ht
  have hal : t.all.length = sr.length + ls.length := by rw [h1]; simp
  have hla : lasts t keep = t.all.length := by unfold lasts; split at hk <;> rename_i hc <;> simp only [hc, if_true, if_false] <;> omega
  have : tpCrash t keep turn = { t with all := t.all, sure := t.all.length, after := -1, down := false } := by
    unfold tpCrash; rw [hla, if_neg (by simp)]; simp
  rw [this]
  refine ⟨by simp only; rw [h1]; simp, by simp only; rw [hal]; simp, h3, rfl, rfl, h8, h9, by omega, by omega⟩
theorem crash_cut {t : Tp} {sr ls : List UInt8} {ro lf : Int} {d : Bool} (ht : IsRt t sr ls ro lf d) {keep : Int} {k : Nat} (hk : k = if 0 < keep then keep.toNat else 0) (hl : ¬ ls.length ≤ k) : IsRt (tpCrash t keep 0) (sr ++ ls.take k) [] ro (-1) false := by
  obtain ⟨h1, h2, h3, h4, h5, h8, h9, h10, h11⟩ := ht
  have hal : t.all.length = sr.length + ls.length := by rw [h1]; simp
  have hla : lasts t keep = sr.length + k := by unfold lasts; split at hk <;> rename_i hc <;> simp only [hc, if_true, if_false] <;> omega
  have : tpCrash t keep 0 = { t with all := sr ++ ls.take k, sure := sr.length + k, after := -1, down := false } := by
    unfold tpCrash; rw [hla, if_neg (by simp), h1, List.take_length_add_append]
  rw [this]
  refine ⟨by simp, by simp only [List.length_append, List.length_take]; omega, h3, rfl, rfl, by simp only [List.length_append, List.length_take]; omega, h9, by omega, by omega⟩
theorem crash_turn {t : Tp} {sr ls : List UInt8} {ro lf : Int} {d : Bool} (ht : IsRt t sr ls ro lf d) {keep : Int} {k : Nat} (hk : k = if 0 < keep then keep.toNat else 0) (hl : ¬ ls.length ≤ k) {turn : UInt8} (h0 : turn ≠ 0) {x : UInt8} (hx : ls[k]? = some x) :
    IsRt (tpCrash t keep turn) (sr ++ ls.take k ++ [x ^^^ turn]) [] ro (-1) false := by
  obtain ⟨h1, h2, h3, h4, h5, h8, h9, h10, h11⟩ := ht
  have hal : t.all.length = sr.length + ls.length := by rw [h1]; simp
  have hla : lasts t keep = sr.length + k := by unfold lasts; split at hk <;> rename_i hc <;> simp only [hc, if_true, if_false] <;> omega
  have hg : t.all.getD (sr.length + k) 0 = x := by
    rw [h1, List.getD_eq_getElem?_getD, List.getElem?_append_right (by omega), Nat.add_sub_cancel_left, hx]; rfl
  have : tpCrash t keep turn = { t with all := sr ++ ls.take k ++ [x ^^^ turn], sure := sr.length + k + 1, after := -1, down := false } := by
    unfold tpCrash; rw [hla, if_pos ⟨by omega, h0⟩, hg, h1, List.take_length_add_append]
  rw [this]
  refine ⟨by simp, by simp only [List.length_append, List.length_take, List.length_singleton]; omega, h3, rfl, rfl, by simp only [List.length_append, List.length_take, List.length_singleton]; omega, h9, by omega, by omega⟩

theorem rcrash_spec {t : Tp} {sr ls : List UInt8} {ro lf : Int} {d : Bool} (ht : IsRt t sr ls ro lf d) (keep : Int) (hk : -9223372036854775808 ≤ keep) (hk2 : keep ≤ 9223372036854775807) (turn : UInt8) :
    FnL Try.prog 22 [.own 0 0, .p (.int .i64 keep), .p (.int .u8 (turn.toNat : Int))] [rtS sr ls ro lf d] fun v own => ∃ (sr' ls' : List UInt8) (ro' lf' : Int) (d' : Bool), IsRt (tpCrash t keep turn) sr' ls' ro' lf' d' ∧ own = [rtS sr' ls' ro' lf' d'] := by
  obtain ⟨k, hkk⟩ : ∃ k, k = if 0 < keep then keep.toNat else 0 := ⟨_, rfl⟩
  obtain ⟨tn, htn⟩ : ∃ tn : Int, tn = (turn.toNat : Int) := ⟨_, rfl⟩
  have htn0 : tn = 0 ↔ turn = 0 := by rw [htn]; exact ⟨fun h => UInt8.toNat_inj.1 (by simpa using h), fun h => by rw [h]; rfl⟩
  have hsz : sr.length + ls.length ≤ 1048576 := by obtain ⟨g1, g2, g3, g4, g5, g6, g7, g8, g9⟩ := ht; rw [g1] at g6; simp at g6; omega
  rw [← htn]
  refine fn_of_vc eOk fOk fo22 Try.func22 rfl rfl rfl fun B hB => ?_
  intro add sub mul quo rem band bor bxor bclr shl shr ieq ilt ile seq slt beq bnot orb bcond iwrap iof ssz hA cat sq sl imin imax smin smax len slen u8 hL op hop call hcall code hcode ret hret
  have hsl : slen ls = Int.ofNat ls.length := hL.slen ls
  cbv
  by_cases hneg : keep < 0
  · have hk0 : k = 0 := by rw [hkk, if_neg (by omega)]
    refine vcIf.yes (by rw [hA.lt]; exact decide_eq_true hneg) ?_
    cbv
    by_cases hl : ls.length ≤ k
    · refine vcIf.yes (by rw [hA.le, hsl]; exact decide_eq_true (by rw [hk0] at hl; simpa using hl)) ?_
      cbv
      refine hcode _ _ _ (CodeEv.drawA eOk fOk (by kernel_rfl) (Xof 1 [0]) (by kernel_rfl) (by kernel_rfl) (by kernel_rfl) ?_)
      intro add3 sub3 mul3 quo3 rem3 band3 bor3 bxor3 bclr3 shl3 shr3 ieq3 ilt3 ile3 seq3 slt3 beq3 bnot3 orb3 bcond3 iwrap3 iof3 ssz3 hA3 cat3 sq3 sl3 imin3 imax3 smin3 smax3 len3 slen3 u83 hL3 op3 hop3 call3 hcall3 code3 hcode3 q3 hq3
      have hI3 : IsRt (tpCrash t keep turn) (cat3 sr ls) [] ro (-1) false := by rw [hL3.cat]; exact crash_all ht hkk hl turn
      cbv
      refine ⟨(), by omega, ?_⟩
      cbv
      refine hq3 _ ?_
      cbv
      exact hret _ (RetEv.ret eOk rfl ⟨_, _, ro, _, _, hI3, rfl⟩)
    · refine vcIf.no (by rw [hA.le, hsl]; exact decide_eq_false (by rw [hk0] at hl; simpa using hl)) ?_
      cbv
      refine hcode _ _ _ (CodeEv.drawA eOk fOk (by kernel_rfl) (Xof 1 [0]) (by kernel_rfl) (by kernel_rfl) (by kernel_rfl) ?_)
      intro add3 sub3 mul3 quo3 rem3 band3 bor3 bxor3 bclr3 shl3 shr3 ieq3 ilt3 ile3 seq3 slt3 beq3 bnot3 orb3 bcond3 iwrap3 iof3 ssz3 hA3 cat3 sq3 sl3 imin3 imax3 smin3 smax3 len3 slen3 u83 hL3 op3 hop3 call3 hcall3 code3 hcode3 q3 hq3
      obtain ⟨S, hS⟩ : ∃ S, S = cat3 sr (ls.take k) := ⟨_, rfl⟩
      have hS2 : S = sr ++ ls.take k := by rw [hS, hL3.cat]
      have hSl : S.length ≤ 1048576 := by rw [hS2]; simp; omega
      cbv
      refine ⟨0, k, rfl, by rw [hk0]; rfl, Nat.zero_le _, by omega, ?_⟩
      intro u hu
      have hu2 : cat3 sr u = S := by rw [hS, hu]; rfl
      have hul : u.length ≤ ls.length := by rw [hu, List.length_take, List.length_drop]; omega
      cbv
      refine ⟨(), by omega, ?_⟩
      cbv
      refine hq3 _ ?_
      rw [hu2]
      cbv
      by_cases h0 : tn = 0
      · refine vcIf.no (by rw [hA.not, hA.eq, h0]; rfl) ?_
        have hI : IsRt (tpCrash t keep turn) S [] ro (-1) false := by rw [htn0.1 h0, hS2]; exact crash_cut ht hkk hl
        cbv
        exact hret _ (RetEv.ret eOk rfl ⟨_, _, ro, _, _, hI, rfl⟩)
      · refine vcIf.yes (by rw [hA.not, hA.eq]; simpa using h0) ?_
        obtain ⟨x, hx⟩ := get_of_lt (show k < ls.length by omega)
        have hI := crash_turn ht hkk hl (fun c => h0 (htn0.2 c)) hx
        rw [← hS2] at hI
        cbv
        refine hcode _ _ _ (CodeEv.drawB eOk fOk (by kernel_rfl) (Xof 1 [0]) (by kernel_rfl) (by kernel_rfl) (by kernel_rfl) ?_)
        intro add4 sub4 mul4 quo4 rem4 band4 bor4 bxor4 bclr4 shl4 shr4 ieq4 ilt4 ile4 seq4 slt4 beq4 bnot4 orb4 bcond4 iwrap4 iof4 ssz4 hA4 cat4 sq4 sl4 imin4 imax4 smin4 smax4 len4 slen4 u84 hL4 op4 hop4 call4 hcall4 code4 hcode4 q4 hq4
        obtain ⟨y, hy⟩ : ∃ y, y = x ^^^ turn := ⟨_, rfl⟩
        have hxv : bxor4 .u8 (u84 x) tn = (y.toNat : Int) := by rw [hA4.xor, hL4.u8, htn, hy]; exact xor_u8 x turn
        have hIc : IsRt (tpCrash t keep turn) (cat4 S [y]) [] ro (-1) false := by rw [hL4.cat, hy]; exact hI
        clear hy hI
        cbv
        refine ⟨k, x, by rw [hk0]; rfl, hx, ?_⟩
        cbv
        refine ⟨true, ?_⟩
        cbv
        refine ⟨[y], ?_, ?_⟩
        · show [PV.int .u8 (bxor4 .u8 (u84 x) tn)] = [PV.int .u8 (y.toNat : Int)]
          rw [hxv]
        cbv
        refine ⟨(), ?_, ?_⟩
        · show S.length + 1 ≤ _
          omega
        cbv
        refine hq4 _ ?_
        cbv
        exact hret _ (RetEv.convW (ConvW.pack [0] hB rfl) (RetEv.ret eOk rfl ⟨_, _, ro, _, _, hIc, rfl⟩))
  · obtain ⟨k1, hk1⟩ : ∃ k1 : Nat, keep = Int.ofNat k1 := ⟨keep.toNat, by simp only [Int.ofNat_eq_natCast]; omega⟩
    have hk0 : k = k1 := by rw [hkk, hk1]; simp only [Int.ofNat_eq_natCast]; split <;> omega
    subst hk0
    rw [hk1]
    refine vcIf.no (by rw [hA.lt]; rw [hk1] at hneg; exact decide_eq_false hneg) ?_
    cbv
    by_cases hl : ls.length ≤ k
    · refine vcIf.yes (by rw [hA.le, hsl]; exact dle hl) ?_
      cbv
      refine hcode _ _ _ (CodeEv.drawA eOk fOk (by kernel_rfl) (Xof 1 [0]) (by kernel_rfl) (by kernel_rfl) (by kernel_rfl) ?_)
      intro add3 sub3 mul3 quo3 rem3 band3 bor3 bxor3 bclr3 shl3 shr3 ieq3 ilt3 ile3 seq3 slt3 beq3 bnot3 orb3 bcond3 iwrap3 iof3 ssz3 hA3 cat3 sq3 sl3 imin3 imax3 smin3 smax3 len3 slen3 u83 hL3 op3 hop3 call3 hcall3 code3 hcode3 q3 hq3
      have hI3 : IsRt (tpCrash t keep turn) (cat3 sr ls) [] ro (-1) false := by rw [hL3.cat]; exact crash_all ht hkk hl turn
      cbv
      refine ⟨(), by omega, ?_⟩
      cbv
      refine hq3 _ ?_
      cbv
      exact hret _ (RetEv.ret eOk rfl ⟨_, _, ro, _, _, hI3, rfl⟩)
    · refine vcIf.no (by rw [hA.le, hsl]; exact dle' hl) ?_
      cbv
      refine hcode _ _ _ (CodeEv.drawA eOk fOk (by kernel_rfl) (Xof 1 [0]) (by kernel_rfl) (by kernel_rfl) (by kernel_rfl) ?_)
      intro add3 sub3 mul3 quo3 rem3 band3 bor3 bxor3 bclr3 shl3 shr3 ieq3 ilt3 ile3 seq3 slt3 beq3 bnot3 orb3 bcond3 iwrap3 iof3 ssz3 hA3 cat3 sq3 sl3 imin3 imax3 smin3 smax3 len3 slen3 u83 hL3 op3 hop3 call3 hcall3 code3 hcode3 q3 hq3
      obtain ⟨S, hS⟩ : ∃ S, S = cat3 sr (ls.take k) := ⟨_, rfl⟩
      have hS2 : S = sr ++ ls.take k := by rw [hS, hL3.cat]
      have hSl : S.length ≤ 1048576 := by rw [hS2]; simp; omega
      cbv
      refine ⟨0, k, rfl, rfl, Nat.zero_le _, by omega, ?_⟩
      intro u hu
      have hu2 : cat3 sr u = S := by rw [hS, hu]; rfl
      have hul : u.length ≤ ls.length := by rw [hu, List.length_take, List.length_drop]; omega
      cbv
      refine ⟨(), by omega, ?_⟩
      cbv
      refine hq3 _ ?_
      rw [hu2]
      cbv
      by_cases h0 : tn = 0
      · refine vcIf.no (by rw [hA.not, hA.eq, h0]; rfl) ?_
        have hI : IsRt (tpCrash t keep turn) S [] ro (-1) false := by rw [htn0.1 h0, hS2]; exact crash_cut ht hkk hl
        cbv
        exact hret _ (RetEv.ret eOk rfl ⟨_, _, ro, _, _, hI, rfl⟩)
      · refine vcIf.yes (by rw [hA.not, hA.eq]; simpa using h0) ?_
        obtain ⟨x, hx⟩ := get_of_lt (show k < ls.length by omega)
        have hI := crash_turn ht hkk hl (fun c => h0 (htn0.2 c)) hx
        rw [← hS2] at hI
        cbv
        refine hcode _ _ _ (CodeEv.drawB eOk fOk (by kernel_rfl) (Xof 1 [0]) (by kernel_rfl) (by kernel_rfl) (by kernel_rfl) ?_)
        intro add4 sub4 mul4 quo4 rem4 band4 bor4 bxor4 bclr4 shl4 shr4 ieq4 ilt4 ile4 seq4 slt4 beq4 bnot4 orb4 bcond4 iwrap4 iof4 ssz4 hA4 cat4 sq4 sl4 imin4 imax4 smin4 smax4 len4 slen4 u84 hL4 op4 hop4 call4 hcall4 code4 hcode4 q4 hq4
        obtain ⟨y, hy⟩ : ∃ y, y = x ^^^ turn := ⟨_, rfl⟩
        have hxv : bxor4 .u8 (u84 x) tn = (y.toNat : Int) := by rw [hA4.xor, hL4.u8, htn, hy]; exact xor_u8 x turn
        have hIc : IsRt (tpCrash t keep turn) (cat4 S [y]) [] ro (-1) false := by rw [hL4.cat, hy]; exact hI
        clear hy hI
        cbv
        refine ⟨k, x, rfl, hx, ?_⟩
        cbv
        refine ⟨true, ?_⟩
        cbv
        refine ⟨[y], ?_, ?_⟩
        · show [PV.int .u8 (bxor4 .u8 (u84 x) tn)] = [PV.int .u8 (y.toNat : Int)]
          rw [hxv]
        cbv
        refine ⟨(), ?_, ?_⟩
        · show S.length + 1 ≤ _
          omega
        cbv
        refine hq4 _ ?_
        cbv
        exact hret _ (RetEv.convW (ConvW.pack [0] hB rfl) (RetEv.ret eOk rfl ⟨_, _, ro, _, _, hIc, rfl⟩))
end Go.Proofs.Ytgblimlnkefllaa
