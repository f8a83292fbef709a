/- The library's contract of strings.Repeat at this program (written by the kit's tools lay-shelf and lay-plain), and what it answers in the calculus. Conditions: on the length of the result. -/
import Derived.Test.YtegkojnngdlfaaaGreatLEnv
import Derived.Shelf.Strings.Builder1
import Derived.Shelf.Strings.Builder2
import Derived.Shelf.Strings.BuilderF
import Derived.Shelf.Strings.Prefix
import Derived.Shelf.Bits.Mul64
import Derived.Shelf.Strings.Repeat
set_option linter.unusedSimpArgs false
set_option linter.unusedVariables false
namespace Go.Proofs
open Go.Shelf
def Tryz.lays105_ren : Go.Shelf.Ren := ⟨fun | 105 => 77 | 212 => 93 | 99 => 94 | 165 => 95 | 166 => 96 | 170 => 97 | 169 => 98 | 263 => 104 | 264 => 105 | 206 => 106 | 240 => 107 | 241 => 108 | 276 => 114 | 277 => 115 | n => n, fun | 9 => 9 | 3 => 3 | 4 => 4 | 20 => 20 | 0 => 0 | 46 => 151 | 109 => 152 | 5 => 5 | 72 => 157 | 76 => 161 | 51 => 169 | 146 => 170 | 53 => 172 | 148 => 173 | 70 => 155 | 37 => 26 | 75 => 160 | 127 => 175 | 164 => 180 | 80 => 120 | n => n, fun | n => n⟩
theorem Tryz.lays105 : Go.Proofs.Lays.n105 Tryz.prog Tryz.lays105_ren := {
  mixed := by kernel_rfl
  f99 := Tryz.func94.trans (congrArg some (by kernel_rfl))
  f105 := Tryz.func77.trans (congrArg some (by kernel_rfl))
  f165 := Tryz.func95.trans (congrArg some (by kernel_rfl))
  f166 := Tryz.func96.trans (congrArg some (by kernel_rfl))
  f169 := Tryz.func98.trans (congrArg some (by kernel_rfl))
  f170 := Tryz.func97.trans (congrArg some (by kernel_rfl))
  f206 := Tryz.func106.trans (congrArg some (by kernel_rfl))
  f212 := Tryz.func93.trans (congrArg some (by kernel_rfl))
  f240 := Tryz.func107.trans (congrArg some (by kernel_rfl))
  f241 := Tryz.func108.trans (congrArg some (by kernel_rfl))
  f263 := Tryz.func104.trans (congrArg some (by kernel_rfl))
  f264 := Tryz.func105.trans (congrArg some (by kernel_rfl))
  f276 := Tryz.func114.trans (congrArg some (by kernel_rfl))
  f277 := Tryz.func115.trans (congrArg some (by kernel_rfl))
  t0 := Tryz.underlying0
  a0 := Tryz.isAgg0
  z0 := Tryz.sizeOf0
  v0 := Tryz.zeroValue0
  t3 := Tryz.underlying3
  a3 := Tryz.isAgg3
  z3 := Tryz.sizeOf3
  v3 := Tryz.zeroValue3
  t4 := Tryz.underlying4
  a4 := Tryz.isAgg4
  z4 := Tryz.sizeOf4
  v4 := Tryz.zeroValue4
  t5 := Tryz.underlying5
  a5 := Tryz.isAgg5
  z5 := Tryz.sizeOf5
  v5 := Tryz.zeroValue5
  t9 := Tryz.underlying9
  a9 := Tryz.isAgg9
  z9 := Tryz.sizeOf9
  v9 := Tryz.zeroValue9
  t20 := Tryz.underlying20
  a20 := Tryz.isAgg20
  z20 := Tryz.sizeOf20
  v20 := Tryz.zeroValue20
  t37 := Tryz.underlying26
  a37 := Tryz.isAgg26
  z37 := Tryz.sizeOf26
  v37 := Tryz.zeroValue26
  t46 := Tryz.underlying151
  a46 := Tryz.isAgg151
  z46 := Tryz.sizeOf151
  v46 := Tryz.zeroValue151
  t51 := Tryz.underlying169
  a51 := Tryz.isAgg169
  z51 := Tryz.sizeOf169
  v51 := Tryz.zeroValue169
  t53 := Tryz.underlying172
  a53 := Tryz.isAgg172
  z53 := Tryz.sizeOf172
  v53 := Tryz.zeroValue172
  t70 := Tryz.underlying155
  a70 := Tryz.isAgg155
  z70 := Tryz.sizeOf155
  v70 := Tryz.zeroValue155
  t72 := Tryz.underlying157
  a72 := Tryz.isAgg157
  z72 := Tryz.sizeOf157
  v72 := Tryz.zeroValue157
  t75 := Tryz.underlying160
  a75 := Tryz.isAgg160
  z75 := Tryz.sizeOf160
  v75 := Tryz.zeroValue160
  t76 := Tryz.underlying161
  a76 := Tryz.isAgg161
  z76 := Tryz.sizeOf161
  v76 := Tryz.zeroValue161
  t109 := Tryz.underlying152
  a109 := Tryz.isAgg152
  z109 := Tryz.sizeOf152
  v109 := Tryz.zeroValue152
  t127 := Tryz.underlying175
  a127 := Tryz.isAgg175
  z127 := Tryz.sizeOf175
  v127 := Tryz.zeroValue175
  t146 := Tryz.underlying170
  a146 := Tryz.isAgg170
  z146 := Tryz.sizeOf170
  v146 := Tryz.zeroValue170
  t148 := Tryz.underlying173
  a148 := Tryz.isAgg173
  z148 := Tryz.sizeOf173
  v148 := Tryz.zeroValue173
  t164 := Tryz.underlying180
  a164 := Tryz.isAgg180
  z164 := Tryz.sizeOf180
  v164 := Tryz.zeroValue180 }
theorem Tryz.Builder_Extra_105 : Builder.Extra Tryz.prog Tryz.lays105_ren := {
  sizeBuilder := by kernel_rfl
  liesBuilder := by kernel_rfl
  t5 := Tryz.underlying5
  a5 := Tryz.isAgg5
  z5 := Tryz.sizeOf5
  v5 := Tryz.zeroValue5
  infoByte := by kernel_rfl
  cellsByte := by kernel_rfl
  sizeByte := by kernel_rfl
  neB5 := by decide }
open Go.RowKit Go.Lib in
theorem Tryz.strings_Repeat (s : ByteArray) (c : Nat) (w : World) (hc : c ≤ 9223372036854775807) (hlen : s.size * c ≤ 140737488355328) :
    Calls Tryz.prog 77 #[.string s, .int .i64 c] w fun e w' => e = .returned (.string ⟨(Lib.repeatL s.data.toList c).toArray⟩) ∧ Below w.heap.size w w' := Any.strings_Repeat Tryz.lays105 Tryz.Builder_Extra_105 s c w hc hlen
end Go.Proofs
namespace Go.Proofs.YtegkojnngdlfaaaGreat
open Go Go.Lx
open Go.Sx (NP Keeps Hp FnOk)
theorem fnL_of_calls {f : FuncId} (hf : FnOk Tryz.prog f) {args : List V} {y : PV} {x : Value} (hy : ∀ H, PV.Den H y x)
    (h : ∀ (H : Hp) (E : Ev) (vals : List Value), DenL H E args vals → Calls Tryz.prog f vals.toArray H.w fun e w' => e = .returned x ∧ RowKit.Below H.w.heap.size H.w w') : FnL Tryz.prog f args [] fun v own => v = .p y ∧ own = [] := by
  refine ⟨hf, fun H E Fs vals h1 h2 h3 h4 => Calls.mono (h H E vals h4) ?_⟩
  rintro e w' ⟨rfl, hb⟩
  have hn : ∀ i k, ¬ Fs i k := fun i k => h2.low i (Nat.zero_le _) k
  refine ⟨x, .p y, [], E, Fs, rfl, ⟨hb.os, hb.tape, hb.output, hb.size, fun k hk _ => hb.block k hk⟩, Nat.le_refl _, fun i k hk => .inl hk, fun i T c hi => by simp at hi, ⟨rfl, rfl⟩, fun M' hM' => ⟨⟨h2.n, fun i r hr => by simp at hr, h2.apart, h2.low⟩, .p _ _ (hy _)⟩⟩
theorem repeat17_spec : FnL Tryz.prog 77 [.p (.str [255]), .p (.int .i64 17)] [] fun v own => v = .p (.str (List.replicate 17 255)) ∧ own = [] := by
  refine fnL_of_calls fo77 (x := .string ⟨(List.replicate 17 (255 : UInt8)).toArray⟩) (fun H => .str _) fun H E vals hd => ?_
  obtain ⟨v0, q0, d0⟩ := hd.get (i := 0) (c := .p (.str [255])) rfl
  obtain ⟨v1, q1, d1⟩ := hd.get (i := 1) (c := .p (.int .i64 17)) rfl
  have hl := hd.1
  have e0 := d0.str_inv
  have e1 := d1.int_inv
  subst e0 e1
  have hv : vals = [.string ⟨[255].toArray⟩, .int .i64 17] := by
    apply List.ext_getElem?
    intro i
    match i with
    | 0 => exact q0
    | 1 => exact q1
    | i + 2 => rw [List.getElem?_eq_none (by rw [hl]; simp)]; simp
  rw [hv]
  have := Tryz.strings_Repeat ⟨[255].toArray⟩ 17 H.w (by decide) (by decide)
  exact this
end Go.Proofs.YtegkojnngdlfaaaGreat
