/- The library's contract of strings.Repeat at this program (written by the kit's tools lay-shelf and lay-plain), and what it answers in the calculus. Conditions: on the length of the result. -/
import Derived.Test.YtknhlbohjiphgaaLEnv
import Derived.Shelf.Strings.Builder1
import Derived.Shelf.Strings.Builder2
import Derived.Shelf.Strings.BuilderF
import Derived.Shelf.Bits.Mul64
import Derived.Shelf.Strings.Repeat
set_option linter.unusedSimpArgs false
set_option linter.unusedVariables false
namespace Go.Proofs
open Go.Shelf
def Try.lays105_ren : Go.Shelf.Ren := ⟨fun | 105 => 40 | 212 => 49 | 99 => 50 | 165 => 51 | 166 => 52 | 170 => 53 | 169 => 54 | 263 => 58 | 264 => 59 | 206 => 60 | 240 => 61 | 241 => 62 | 276 => 63 | 277 => 64 | n => n, fun | 9 => 9 | 3 => 3 | 4 => 4 | 20 => 20 | 0 => 0 | 46 => 73 | 109 => 80 | 5 => 5 | 72 => 85 | 76 => 89 | 51 => 95 | 146 => 96 | 53 => 98 | 148 => 99 | 70 => 82 | 37 => 83 | 75 => 88 | 127 => 101 | 164 => 102 | 80 => 92 | n => n, fun | n => n⟩
theorem Try.lays105 : Go.Proofs.Lays.n105 Try.prog Try.lays105_ren := {
  mixed := by kernel_rfl
  f99 := Try.func50.trans (congrArg some (by kernel_rfl))
  f105 := Try.func40.trans (congrArg some (by kernel_rfl))
  f165 := Try.func51.trans (congrArg some (by kernel_rfl))
  f166 := Try.func52.trans (congrArg some (by kernel_rfl))
  f169 := Try.func54.trans (congrArg some (by kernel_rfl))
  f170 := Try.func53.trans (congrArg some (by kernel_rfl))
  f206 := Try.func60.trans (congrArg some (by kernel_rfl))
  f212 := Try.func49.trans (congrArg some (by kernel_rfl))
  f240 := Try.func61.trans (congrArg some (by kernel_rfl))
  f241 := Try.func62.trans (congrArg some (by kernel_rfl))
  f263 := Try.func58.trans (congrArg some (by kernel_rfl))
  f264 := Try.func59.trans (congrArg some (by kernel_rfl))
  f276 := Try.func63.trans (congrArg some (by kernel_rfl))
  f277 := Try.func64.trans (congrArg some (by kernel_rfl))
  t0 := Try.underlying0
  a0 := Try.isAgg0
  z0 := Try.sizeOf0
  v0 := Try.zeroValue0
  t3 := Try.underlying3
  a3 := Try.isAgg3
  z3 := Try.sizeOf3
  v3 := Try.zeroValue3
  t4 := Try.underlying4
  a4 := Try.isAgg4
  z4 := Try.sizeOf4
  v4 := Try.zeroValue4
  t5 := Try.underlying5
  a5 := Try.isAgg5
  z5 := Try.sizeOf5
  v5 := Try.zeroValue5
  t9 := Try.underlying9
  a9 := Try.isAgg9
  z9 := Try.sizeOf9
  v9 := Try.zeroValue9
  t20 := Try.underlying20
  a20 := Try.isAgg20
  z20 := Try.sizeOf20
  v20 := Try.zeroValue20
  t37 := Try.underlying83
  a37 := Try.isAgg83
  z37 := Try.sizeOf83
  v37 := Try.zeroValue83
  t46 := Try.underlying73
  a46 := Try.isAgg73
  z46 := Try.sizeOf73
  v46 := Try.zeroValue73
  t51 := Try.underlying95
  a51 := Try.isAgg95
  z51 := Try.sizeOf95
  v51 := Try.zeroValue95
  t53 := Try.underlying98
  a53 := Try.isAgg98
  z53 := Try.sizeOf98
  v53 := Try.zeroValue98
  t70 := Try.underlying82
  a70 := Try.isAgg82
  z70 := Try.sizeOf82
  v70 := Try.zeroValue82
  t72 := Try.underlying85
  a72 := Try.isAgg85
  z72 := Try.sizeOf85
  v72 := Try.zeroValue85
  t75 := Try.underlying88
  a75 := Try.isAgg88
  z75 := Try.sizeOf88
  v75 := Try.zeroValue88
  t76 := Try.underlying89
  a76 := Try.isAgg89
  z76 := Try.sizeOf89
  v76 := Try.zeroValue89
  t109 := Try.underlying80
  a109 := Try.isAgg80
  z109 := Try.sizeOf80
  v109 := Try.zeroValue80
  t127 := Try.underlying101
  a127 := Try.isAgg101
  z127 := Try.sizeOf101
  v127 := Try.zeroValue101
  t146 := Try.underlying96
  a146 := Try.isAgg96
  z146 := Try.sizeOf96
  v146 := Try.zeroValue96
  t148 := Try.underlying99
  a148 := Try.isAgg99
  z148 := Try.sizeOf99
  v148 := Try.zeroValue99
  t164 := Try.underlying102
  a164 := Try.isAgg102
  z164 := Try.sizeOf102
  v164 := Try.zeroValue102 }
theorem Try.Builder_Extra_105 : Builder.Extra Try.prog Try.lays105_ren := {
  sizeBuilder := by kernel_rfl
  liesBuilder := by kernel_rfl
  t5 := Try.underlying5
  a5 := Try.isAgg5
  z5 := Try.sizeOf5
  v5 := Try.zeroValue5
  infoByte := by kernel_rfl
  cellsByte := by kernel_rfl
  sizeByte := by kernel_rfl
  neB5 := by decide }
open Go.RowKit Go.Lib in
/-- **strings.Repeat: count ≥ 0, the result within one allocation: count copies of s.** (LAID: no walk: one application.) -/
theorem Try.strings_Repeat (s : ByteArray) (c : Nat) (w : World) (hc : c ≤ 9223372036854775807) (hlen : s.size * c ≤ 140737488355328) :
    Calls Try.prog 40 #[.string s, .int .i64 c] w fun e w' => e = .returned (.string ⟨(Lib.repeatL s.data.toList c).toArray⟩) ∧ Below w.heap.size w w' := Any.strings_Repeat Try.lays105 Try.Builder_Extra_105 s c w hc hlen
end Go.Proofs
namespace Go.Proofs.Ytknhlbohjiphgaa
open Go Go.Lx
open Go.Sx (NP Keeps Hp FnOk)

/-- A contract of the library's, of a call that hands out a value that stays. -/
theorem fnL_of_calls {f : FuncId} (hf : FnOk Try.prog f) {args : List V} {y : PV} {x : Value} (hy : ∀ H, PV.Den H y x)
    (h : ∀ (H : Hp) (E : Ev) (vals : List Value), DenL H E args vals → Calls Try.prog f vals.toArray H.w fun e w' => e = .returned x ∧ RowKit.Below H.w.heap.size H.w w') : FnL Try.prog f args [] fun v own => v = .p y ∧ own = [] := by
  refine ⟨hf, fun H E Fs vals h1 h2 h3 h4 => Calls.mono (h H E vals h4) ?_⟩
  rintro e w' ⟨rfl, hb⟩
  have hn : ∀ i k, ¬ Fs i k := fun i k => h2.low i (Nat.zero_le _) k
  refine ⟨x, .p y, [], E, Fs, rfl, ⟨hb.os, hb.tape, hb.output, hb.size, fun k hk _ => hb.block k hk⟩, Nat.le_refl _, fun i k hk => .inl hk, fun i T c hi => by simp at hi, ⟨rfl, rfl⟩, fun M' hM' => ⟨⟨h2.n, fun i r hr => by simp at hr, h2.apart, h2.low⟩, .p _ _ (hy _)⟩⟩

theorem repeat17_spec : FnL Try.prog 40 [.p (.str [255]), .p (.int .i64 17)] [] fun v own => v = .p (.str (List.replicate 17 255)) ∧ own = [] := by
  refine fnL_of_calls fo40 (x := .string ⟨(List.replicate 17 (255 : UInt8)).toArray⟩) (fun H => .str _) fun H E vals hd => ?_
  obtain ⟨v0, q0, d0⟩ := hd.get (i := 0) (c := .p (.str [255])) rfl
  obtain ⟨v1, q1, d1⟩ := hd.get (i := 1) (c := .p (.int .i64 17)) rfl
  have hl := hd.1
  have e0 := d0.str_inv
  have e1 := d1.int_inv
  subst e0 e1
  have hv : vals = [.string ⟨[255].toArray⟩, .int .i64 17] := by
    apply List.ext_getElem?
    intro i
    match i with
    | 0 => exact q0
    | 1 => exact q1
    | i + 2 => rw [List.getElem?_eq_none (by rw [hl]; simp)]; simp
  rw [hv]
  have := Try.strings_Repeat ⟨[255].toArray⟩ 17 H.w (by decide) (by decide)
  exact this
end Go.Proofs.Ytknhlbohjiphgaa
