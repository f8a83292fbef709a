/- Ballots, over vows whose states name no log servers: promised, taken, the best one; an index; the simplest facts. Conditions: on sizes. -/
import Derived.Test.YtdbagbklhchbkaaLEnv
import Derived.Test.YtdbagbklhchbkaaLPx1
import Derived.Test.YtdbagbklhchbkaaLY14
import Derived.Test.YtdbagbklhchbkaaLY13
set_option maxRecDepth 100000
set_option maxHeartbeats 8000000
set_option linter.unusedSimpArgs false
set_option linter.unusedVariables false
namespace Go.Proofs.Ytdbagbklhchbkaa
open Go Go.Lx
open Go.Sx (vcIf)

def blt (a b c d : Int) : Bool := decide (a < c ∨ a = c ∧ b < d)
theorem blLess_spec (a b c d : Int) : FnL Try.prog 14 [.p (.agg [.int .i64 a, .int .i64 b]), .p (.agg [.int .i64 c, .int .i64 d])] [] fun v own => ∃ x, x = blt a b c d ∧ v = .p (.bool x) ∧ own = [] := by
  refine FnL.flat (R := fun v own => ∃ x, x = blt a b c d ∧ v = .p (.bool x)) ?_ (by rintro _ _ ⟨b, h, rfl⟩; exact ⟨_, _, rfl, .refl _, b, h, rfl, rfl⟩)
  refine fn_of_vc eOk fOk fo14 Try.func14 rfl rfl rfl fun B hB => ?_
  intro add sub mul quo rem band bor bxor bclr shl shr ieq ilt ile seq slt beq bnot orb bcond iwrap iof ssz hA cat sq sl imin imax smin smax len slen u8 hL op hop call hcall code hcode ret hret
  cbv
  by_cases h1 : a < c
  · refine vcIf.yes (by first | (simp [hA.not, hA.eq, hA.lt, hA.le, hA.cond, hA.beq, hA.orb, hL.len, hL.slen, hL.sq, h1]; done) | (simp only [h1]; simp [hA.not, hA.eq, hA.lt, hA.le, hA.cond, hA.beq, hA.orb, hL.len, hL.slen, hL.sq, h1]; done) | (simp [hA.not, hA.eq, hA.lt, hA.le, hA.cond, hA.beq, hA.orb, hL.len, hL.slen, hL.sq, h1]; omega) | (simp only [h1]; simp [hA.not, hA.eq, hA.lt, hA.le, hA.cond, hA.beq, hA.orb, hL.len, hL.slen, hL.sq, h1]; omega)) ?_
    cbv
    repeat (first | (refine vcIf.yes ?_ ?_; (focus (simp [hA.not, hA.eq, hA.lt, hA.le, hA.cond, hA.beq, hA.orb, hL.len, hL.slen, hL.sq]; done)); cbv) | (refine vcIf.no ?_ ?_; (focus (simp [hA.not, hA.eq, hA.lt, hA.le, hA.cond, hA.beq, hA.orb, hL.len, hL.slen, hL.sq]; done)); cbv) | fail)
    exact hret _ (RetEv.ret eOk rfl ⟨true, (by unfold blt; rw [eq_comm, decide_eq_true_eq]; exact .inl h1), rfl⟩)
  refine vcIf.no (by first | (simp [hA.not, hA.eq, hA.lt, hA.le, hA.cond, hA.beq, hA.orb, hL.len, hL.slen, hL.sq, h1]; done) | (simp only [h1]; simp [hA.not, hA.eq, hA.lt, hA.le, hA.cond, hA.beq, hA.orb, hL.len, hL.slen, hL.sq, h1]; done) | (simp [hA.not, hA.eq, hA.lt, hA.le, hA.cond, hA.beq, hA.orb, hL.len, hL.slen, hL.sq, h1]; omega) | (simp only [h1]; simp [hA.not, hA.eq, hA.lt, hA.le, hA.cond, hA.beq, hA.orb, hL.len, hL.slen, hL.sq, h1]; omega)) ?_
  cbv
  by_cases h2 : a = c
  · refine vcIf.yes (by first | (simp [hA.not, hA.eq, hA.lt, hA.le, hA.cond, hA.beq, hA.orb, hL.len, hL.slen, hL.sq, h2]; done) | (simp only [h2]; simp [hA.not, hA.eq, hA.lt, hA.le, hA.cond, hA.beq, hA.orb, hL.len, hL.slen, hL.sq, h2]; done) | (simp [hA.not, hA.eq, hA.lt, hA.le, hA.cond, hA.beq, hA.orb, hL.len, hL.slen, hL.sq, h2]; omega) | (simp only [h2]; simp [hA.not, hA.eq, hA.lt, hA.le, hA.cond, hA.beq, hA.orb, hL.len, hL.slen, hL.sq, h2]; omega)) ?_
    cbv
    refine hret _ (RetEv.ret eOk rfl ⟨_, rfl, ?_⟩)
    refine congrArg (fun x => V.p (.bool x)) ?_
    unfold blt
    simp [hA.cond, hA.lt, hA.eq, h2]
  · refine vcIf.no (by first | (simp [hA.not, hA.eq, hA.lt, hA.le, hA.cond, hA.beq, hA.orb, hL.len, hL.slen, hL.sq, h2]; done) | (simp only [h2]; simp [hA.not, hA.eq, hA.lt, hA.le, hA.cond, hA.beq, hA.orb, hL.len, hL.slen, hL.sq, h2]; done) | (simp [hA.not, hA.eq, hA.lt, hA.le, hA.cond, hA.beq, hA.orb, hL.len, hL.slen, hL.sq, h2]; omega) | (simp only [h2]; simp [hA.not, hA.eq, hA.lt, hA.le, hA.cond, hA.beq, hA.orb, hL.len, hL.slen, hL.sq, h2]; omega)) ?_
    cbv
    refine hret _ (RetEv.ret eOk rfl ⟨_, rfl, ?_⟩)
    refine congrArg (fun x => V.p (.bool x)) ?_
    unfold blt
    simp [hA.cond, hA.lt, hA.eq, h1, h2]
abbrev nvP (pn pd an ad g e : Int) : PV := .agg [.int .i64 pn, .int .i64 pd, .int .i64 an, .int .i64 ad, .int .i64 g, .int .i64 e, .int .i64 0, .nils]
abbrev baP (a b : Int) : PV := .agg [.int .i64 a, .int .i64 b]
abbrev nsP (g e : Int) : PV := .agg [.int .i64 g, .int .i64 e, .int .i64 0, .nils]
theorem cloneNil_spec : FnL Try.prog 47 [.p .nils] [] fun v own => v = .p .nils ∧ own = [] := by
  refine FnL.flat (R := fun v own => v = .p .nils) ?_ (by rintro _ _ rfl; exact ⟨_, _, rfl, .refl _, rfl, rfl⟩)
  refine fn_of_vc eOk fOk fo47 Try.func47 rfl rfl rfl fun B hB => ?_
  intro add sub mul quo rem band bor bxor bclr shl shr ieq ilt ile seq slt beq bnot orb bcond iwrap iof ssz hA cat sq sl imin imax smin smax len slen u8 hL op hop call hcall code hcode ret hret
  cbv
  exact hret _ (RetEv.ret eOk rfl rfl)
theorem nvClone_spec (pn pd an ad g e : Int) : FnL Try.prog 40 [.p (nvP pn pd an ad g e)] [] fun v own => v = .p (nvP pn pd an ad g e) ∧ own = [] := by
  refine FnL.flat (R := fun v own => v = .p (nvP pn pd an ad g e)) ?_ (by rintro _ _ rfl; exact ⟨_, _, rfl, .refl _, rfl, rfl⟩)
  refine fn_of_vc eOk fOk fo40 Try.func40 rfl rfl rfl fun B hB => ?_
  intro add sub mul quo rem band bor bxor bclr shl shr ieq ilt ile seq slt beq bnot orb bcond iwrap iof ssz hA cat sq sl imin imax smin smax len slen u8 hL op hop call hcall code hcode ret hret
  cbv
  refine hcall _ _ _ _ _ (CallEv.same cloneNil_spec rfl ?_)
  rintro _ _ ⟨rfl, rfl⟩
  cbv
  exact hret _ (RetEv.ret eOk rfl rfl)
/-- A promise: the ballot in the place of the elder one, if it is greater. -/
theorem nvPromise_spec (pn pd an ad g e a b : Int) :
    FnL Try.prog 17 [.p (nvP pn pd an ad g e), .p (baP a b)] [] fun v own => ((blt pn pd a b = true ∧ v = .p (.tup [nvP a b an ad g e, .bool true])) ∨ (blt pn pd a b = false ∧ v = .p (.tup [nvP pn pd an ad g e, .bool false]))) ∧ own = [] := by
  refine FnL.flat (R := fun v own => (blt pn pd a b = true ∧ v = .p (.tup [nvP a b an ad g e, .bool true])) ∨ (blt pn pd a b = false ∧ v = .p (.tup [nvP pn pd an ad g e, .bool false]))) ?_
    (by rintro _ _ (⟨h, rfl⟩ | ⟨h, rfl⟩) <;> exact ⟨_, _, rfl, .refl _, by simp [h], rfl⟩)
  refine fn_of_vc eOk fOk fo17 Try.func17 rfl rfl rfl fun B hB => ?_
  intro add sub mul quo rem band bor bxor bclr shl shr ieq ilt ile seq slt beq bnot orb bcond iwrap iof ssz hA cat sq sl imin imax smin smax len slen u8 hL op hop call hcall code hcode ret hret
  cbv
  refine hcall _ _ _ _ _ (CallEv.same (nvClone_spec pn pd an ad g e) rfl ?_)
  rintro _ _ ⟨rfl, rfl⟩
  cbv
  refine hcall _ _ _ _ _ (CallEv.same (blLess_spec pn pd a b) rfl ?_)
  rintro _ _ ⟨x, hx, rfl, rfl⟩
  cases x with
  | true =>
    cbv
    repeat (first | (refine vcIf.yes ?_ ?_; (focus (simp [hA.not, hA.eq, hA.lt, hA.le, hA.cond, hA.beq, hA.orb, hL.len, hL.slen, hL.sq]; done)); cbv) | (refine vcIf.no ?_ ?_; (focus (simp [hA.not, hA.eq, hA.lt, hA.le, hA.cond, hA.beq, hA.orb, hL.len, hL.slen, hL.sq]; done)); cbv) | fail)
    exact hret _ (RetEv.ret eOk rfl (.inl ⟨hx.symm, rfl⟩))
  | false =>
    cbv
    repeat (first | (refine vcIf.yes ?_ ?_; (focus (simp [hA.not, hA.eq, hA.lt, hA.le, hA.cond, hA.beq, hA.orb, hL.len, hL.slen, hL.sq]; done)); cbv) | (refine vcIf.no ?_ ?_; (focus (simp [hA.not, hA.eq, hA.lt, hA.le, hA.cond, hA.beq, hA.orb, hL.len, hL.slen, hL.sq]; done)); cbv) | fail)
    exact hret _ (RetEv.ret eOk rfl (.inr ⟨hx.symm, rfl⟩))
theorem nvTake_spec (pn pd an ad g e a b g2 e2 : Int) :
    FnL Try.prog 19 [.p (nvP pn pd an ad g e), .p (baP a b), .p (nsP g2 e2)] [] fun v own => ((blt a b pn pd = true ∧ v = .p (.tup [nvP pn pd an ad g e, .bool false])) ∨ (blt a b pn pd = false ∧ v = .p (.tup [nvP a b a b g2 e2, .bool true]))) ∧ own = [] := by
  refine FnL.flat (R := fun v own => (blt a b pn pd = true ∧ v = .p (.tup [nvP pn pd an ad g e, .bool false])) ∨ (blt a b pn pd = false ∧ v = .p (.tup [nvP a b a b g2 e2, .bool true]))) ?_
    (by rintro _ _ (⟨h, rfl⟩ | ⟨h, rfl⟩) <;> exact ⟨_, _, rfl, .refl _, by simp [h], rfl⟩)
  refine fn_of_vc eOk fOk fo19 Try.func19 rfl rfl rfl fun B hB => ?_
  intro add sub mul quo rem band bor bxor bclr shl shr ieq ilt ile seq slt beq bnot orb bcond iwrap iof ssz hA cat sq sl imin imax smin smax len slen u8 hL op hop call hcall code hcode ret hret
  cbv
  refine hcall _ _ _ _ _ (CallEv.same (blLess_spec a b pn pd) rfl ?_)
  rintro _ _ ⟨x, hx, rfl, rfl⟩
  cases x with
  | true =>
    cbv
    refine hcall _ _ _ _ _ (CallEv.same (nvClone_spec pn pd an ad g e) rfl ?_)
    rintro _ _ ⟨rfl, rfl⟩
    cbv
    exact hret _ (RetEv.ret eOk rfl (.inl ⟨hx.symm, rfl⟩))
  | false =>
    cbv
    refine hcall _ _ _ _ _ (CallEv.same (nvClone_spec a b a b g2 e2) rfl ?_)
    rintro _ _ ⟨rfl, rfl⟩
    cbv
    exact hret _ (RetEv.ret eOk rfl (.inr ⟨hx.symm, rfl⟩))
structure Nv where
  pn : Int
  pd : Int
  an : Int
  ad : Int
  g : Int
  e : Int
def Nv.v (x : Nv) : PV := nvP x.pn x.pd x.an x.ad x.g x.e
def bestN : Nv → List Nv → Nv
  | b, [] => b
  | b, x :: r => bestN (if blt b.an b.ad x.an x.ad = true then x else b) r
theorem bestN_snoc : ∀ (l : List Nv) (b x : Nv), bestN b (l ++ [x]) = if blt (bestN b l).an (bestN b l).ad x.an x.ad = true then x else bestN b l
  | [], b, x => rfl
  | y :: r, b, x => bestN_snoc r _ x
def zeroN : Nv := ⟨0, 0, 0, 0, 0, 0⟩
theorem nvBest_spec (l : List Nv) (zs : List PV) (hz : zs = l.map Nv.v) (hl : l.length ≤ 1000) :
    FnL Try.prog 23 [.p (.sl zs)] [] fun v own => v = .p (nsP (bestN zeroN l).g (bestN zeroN l).e) ∧ own = [] := by
  refine FnL.flat (R := fun v own => v = .p (nsP (bestN zeroN l).g (bestN zeroN l).e)) ?_ (by rintro _ _ rfl; exact ⟨_, _, rfl, .refl _, rfl, rfl⟩)
  obtain ⟨n, hn⟩ : ∃ n, n = l.length := ⟨_, rfl⟩
  have hzl : zs.length = n := by rw [hz, List.length_map, hn]
  refine fn_of_vc eOk fOk fo23 Try.func23 rfl rfl rfl fun B hB => ?_
  intro add sub mul quo rem band bor bxor bclr shl shr ieq ilt ile seq slt beq bnot orb bcond iwrap iof ssz hA cat sq sl imin imax smin smax len slen u8 hL op hop call hcall code hcode ret hret
  have hlen : len zs = Int.ofNat n := by rw [hL.len, hzl]; rfl
  cbv
  refine hcode _ _ _ (CodeEv.loop eOk fOk (ι := Nat × Nv) (fun i => [(2, .own 0 0), (3, .own 1 0), (7, .p (.sl zs)), (8, .p (.int .i64 (len zs))), (9, .p (.int .i64 (Int.ofNat i.1)))])
    (fun i => [.st 29 [.p (.int .i64 0), .p (.int .i64 0), .p (.int .i64 0), .p .nils], .st 31 [.p (.int .i64 i.2.pn), .p (.int .i64 i.2.pd), .p (.int .i64 i.2.an), .p (.int .i64 i.2.ad), .p (.int .i64 i.2.g), .p (.int .i64 i.2.e), .p (.int .i64 0), .p .nils]])
    (fun i => i.1 ≤ n ∧ i.2 = bestN zeroN (l.take i.1)) (fun i => n - i.1) (0, zeroN) ?_ ?_)
  · exact ⟨(by repeat (first | exact trivial | refine And.intro rfl ?_)), rfl, Nat.zero_le _, rfl⟩
  rintro ⟨i, b⟩ ⟨h1, h2⟩ rd hrd
  simp only at h1 h2
  obtain ⟨pn, pd, an, ad, g, e⟩ := b
  intro add1 sub1 mul1 quo1 rem1 band1 bor1 bxor1 bclr1 shl1 shr1 ieq1 ilt1 ile1 seq1 slt1 beq1 bnot1 orb1 bcond1 iwrap1 iof1 ssz1 hA1 cat1 sq1 sl1 imin1 imax1 smin1 smax1 len1 slen1 u81 hL1 op1 hop1 call1 hcall1 code1 hcode1
  cbv
  by_cases hi : i < n
  · refine vcIf.yes (by first | (simp [hA1.not, hA1.eq, hA1.lt, hA1.le, hA1.cond, hA1.beq, hA1.orb, hL1.len, hL1.slen, hL1.sq, hlen, hi]; done) | (simp only [hlen, hi]; simp [hA1.not, hA1.eq, hA1.lt, hA1.le, hA1.cond, hA1.beq, hA1.orb, hL1.len, hL1.slen, hL1.sq, hlen, hi]; done) | (simp [hA1.not, hA1.eq, hA1.lt, hA1.le, hA1.cond, hA1.beq, hA1.orb, hL1.len, hL1.slen, hL1.sq, hlen, hi]; omega) | (simp only [hlen, hi]; simp [hA1.not, hA1.eq, hA1.lt, hA1.le, hA1.cond, hA1.beq, hA1.orb, hL1.len, hL1.slen, hL1.sq, hlen, hi]; omega)) ?_
    obtain ⟨x, hx⟩ := get_of_lt (show i < l.length by omega)
    have htk : l.take (i + 1) = l.take i ++ [x] := by rw [List.take_add_one, hx]; rfl
    have hb := bestN_snoc (l.take i) zeroN x
    rw [← htk, ← h2] at hb
    obtain ⟨pn2, pd2, an2, ad2, g2, e2⟩ := x
    have hzs : zs[i]? = some (nvP pn2 pd2 an2 ad2 g2 e2) := by rw [hz, List.getElem?_map, hx]; rfl
    have hadd : add1 .i64 (Int.ofNat i) 1 = Int.ofNat (i + 1) := by rw [hA1.add, IntWalk.i64_in _ (by simp only [Int.ofNat_eq_natCast]; omega)]; rfl
    cbv
    refine ⟨i, _, rfl, hzs, rfl, ?_⟩
    cbv
    refine hcall1 _ _ _ _ _ (CallEv.same (blLess_spec an ad an2 ad2) rfl ?_)
    rintro _ _ ⟨x, hx, rfl, rfl⟩
    replace hb : bestN zeroN (l.take (i + 1)) = if blt an ad an2 ad2 = true then ⟨pn2, pd2, an2, ad2, g2, e2⟩ else ⟨pn, pd, an, ad, g, e⟩ := hb
    rw [← hx] at hb
    cases x with
    | true =>
      cbv
      refine hrd _ ⟨(i + 1, ⟨pn2, pd2, an2, ad2, g2, e2⟩), _, ?_, ⟨hi, ?_⟩, rfl, ⟨rfl, rfl, rfl, rfl, ?_, trivial⟩, rfl, rfl, rfl, ?_⟩
      · simp only; omega
      · simp only; rw [hb]; rfl
      · show some (V.p (.int .i64 (add1 .i64 (Int.ofNat i) 1))) = some (V.p (.int .i64 (Int.ofNat (i + 1))))
        rw [hadd]
      · rw [hB]; exact Nat.zero_le _
    | false =>
      cbv
      refine hrd _ ⟨(i + 1, ⟨pn, pd, an, ad, g, e⟩), _, ?_, ⟨hi, ?_⟩, rfl, ⟨rfl, rfl, rfl, rfl, ?_, trivial⟩, rfl, rfl, rfl, ?_⟩
      · simp only; omega
      · simp only; rw [hb]; rfl
      · show some (V.p (.int .i64 (add1 .i64 (Int.ofNat i) 1))) = some (V.p (.int .i64 (Int.ofNat (i + 1))))
        rw [hadd]
      · rw [hB]; exact Nat.zero_le _
  · refine vcIf.no (by first | (simp [hA1.not, hA1.eq, hA1.lt, hA1.le, hA1.cond, hA1.beq, hA1.orb, hL1.len, hL1.slen, hL1.sq, hlen, hi]; done) | (simp only [hlen, hi]; simp [hA1.not, hA1.eq, hA1.lt, hA1.le, hA1.cond, hA1.beq, hA1.orb, hL1.len, hL1.slen, hL1.sq, hlen, hi]; done) | (simp [hA1.not, hA1.eq, hA1.lt, hA1.le, hA1.cond, hA1.beq, hA1.orb, hL1.len, hL1.slen, hL1.sq, hlen, hi]; omega) | (simp only [hlen, hi]; simp [hA1.not, hA1.eq, hA1.lt, hA1.le, hA1.cond, hA1.beq, hA1.orb, hL1.len, hL1.slen, hL1.sq, hlen, hi]; omega)) ?_
    have hin : i = n := by omega
    rw [hin, hn, List.take_length] at h2
    cbv
    refine hcall _ _ _ _ _ (CallEv.same (nvClone_spec pn pd an ad g e) rfl ?_)
    rintro _ _ ⟨rfl, rfl⟩
    cbv
    refine hret _ (RetEv.ret eOk rfl ?_)
    rw [← h2]; rfl
/-- States that name no log servers, the same. -/
theorem nsInts_spec : FnL Try.prog 39 [.p .nils, .p .nils] [] fun v own => v = .p (.bool true) ∧ own = [] := by
  refine FnL.flat (R := fun v own => v = .p (.bool true)) ?_ (by rintro _ _ rfl; exact ⟨_, _, rfl, .refl _, rfl, rfl⟩)
  refine fn_of_vc eOk fOk fo39 Try.func39 rfl rfl rfl fun B hB => ?_
  intro add sub mul quo rem band bor bxor bclr shl shr ieq ilt ile seq slt beq bnot orb bcond iwrap iof ssz hA cat sq sl imin imax smin smax len slen u8 hL op hop call hcall code hcode ret hret
  cbv
  refine vcIf.no (by first | (simp [hA.not, hA.eq, hA.lt, hA.le, hA.cond, hA.beq, hA.orb, hL.len, hL.slen, hL.sq]; done) | (simp [hA.not, hA.eq, hA.lt, hA.le, hA.cond, hA.beq, hA.orb, hL.len, hL.slen, hL.sq]; omega)) ?_
  cbv
  refine hcode _ _ _ (CodeEv.loop eOk fOk (ι := Unit) (fun i => [(0, .p .nils), (1, .p .nils), (5, .p (.int .i64 0))])
    (fun i => []) (fun i => True) (fun i => 0) () ?_ ?_)
  · exact ⟨(by repeat (first | exact trivial | refine And.intro rfl ?_)), rfl, trivial⟩
  rintro _ _ rd hrd
  intro add1 sub1 mul1 quo1 rem1 band1 bor1 bxor1 bclr1 shl1 shr1 ieq1 ilt1 ile1 seq1 slt1 beq1 bnot1 orb1 bcond1 iwrap1 iof1 ssz1 hA1 cat1 sq1 sl1 imin1 imax1 smin1 smax1 len1 slen1 u81 hL1 op1 hop1 call1 hcall1 code1 hcode1
  cbv
  refine vcIf.no (by first | (simp [hA1.not, hA1.eq, hA1.lt, hA1.le, hA1.cond, hA1.beq, hA1.orb, hL1.len, hL1.slen, hL1.sq]; done) | (simp [hA1.not, hA1.eq, hA1.lt, hA1.le, hA1.cond, hA1.beq, hA1.orb, hL1.len, hL1.slen, hL1.sq]; omega)) ?_
  cbv
  exact hret _ (RetEv.ret eOk rfl rfl)
theorem nsSame_spec (g e : Int) : FnL Try.prog 22 [.p (nsP g e), .p (nsP g e)] [] fun v own => v = .p (.bool true) ∧ own = [] := by
  refine FnL.flat (R := fun v own => v = .p (.bool true)) ?_ (by rintro _ _ rfl; exact ⟨_, _, rfl, .refl _, rfl, rfl⟩)
  refine fn_of_vc eOk fOk fo22 Try.func22 rfl rfl rfl fun B hB => ?_
  intro add sub mul quo rem band bor bxor bclr shl shr ieq ilt ile seq slt beq bnot orb bcond iwrap iof ssz hA cat sq sl imin imax smin smax len slen u8 hL op hop call hcall code hcode ret hret
  cbv
  refine vcIf.yes (by first | (simp [hA.not, hA.eq, hA.lt, hA.le, hA.cond, hA.beq, hA.orb, hL.len, hL.slen, hL.sq]; done) | (simp [hA.not, hA.eq, hA.lt, hA.le, hA.cond, hA.beq, hA.orb, hL.len, hL.slen, hL.sq]; omega)) ?_
  cbv
  refine vcIf.yes (by first | (simp [hA.not, hA.eq, hA.lt, hA.le, hA.cond, hA.beq, hA.orb, hL.len, hL.slen, hL.sq]; done) | (simp [hA.not, hA.eq, hA.lt, hA.le, hA.cond, hA.beq, hA.orb, hL.len, hL.slen, hL.sq]; omega)) ?_
  cbv
  refine vcIf.yes (by first | (simp [hA.not, hA.eq, hA.lt, hA.le, hA.cond, hA.beq, hA.orb, hL.len, hL.slen, hL.sq]; done) | (simp [hA.not, hA.eq, hA.lt, hA.le, hA.cond, hA.beq, hA.orb, hL.len, hL.slen, hL.sq]; omega)) ?_
  cbv
  refine hcall _ _ _ _ _ (CallEv.same nsInts_spec rfl ?_)
  rintro _ _ ⟨rfl, rfl⟩
  cbv
  exact hret _ (RetEv.ret eOk rfl (by simp [hA.not, hA.eq, hA.lt, hA.le, hA.cond, hA.beq, hA.orb, hL.len, hL.slen, hL.sq, oneOf]))
/-- A number as one from 0 to below m. -/
theorem index_spec (z m : Int) (hm : 0 < m) (hb : m ≤ 1000) : FnL Try.prog 25 [.p (.int .i64 z), .p (.int .i64 m)] [] fun v own => ∃ r : Nat, (r : Int) = (if z.tmod m < 0 then z.tmod m + m else z.tmod m) ∧ v = .p (.int .i64 (Int.ofNat r)) ∧ own = [] := by
  refine FnL.flat (R := fun v own => ∃ r : Nat, (r : Int) = (if z.tmod m < 0 then z.tmod m + m else z.tmod m) ∧ v = .p (.int .i64 (Int.ofNat r))) ?_ (by rintro _ _ ⟨b, h, rfl⟩; exact ⟨_, _, rfl, .refl _, b, h, rfl, rfl⟩)
  refine fn_of_vc eOk fOk fo25 Try.func25 rfl rfl rfl fun B hB => ?_
  intro add sub mul quo rem band bor bxor bclr shl shr ieq ilt ile seq slt beq bnot orb bcond iwrap iof ssz hA cat sq sl imin imax smin smax len slen u8 hL op hop call hcall code hcode ret hret
  have h1 := Int.tmod_lt_of_pos z hm
  have h0 : -m < z.tmod m := by
    rcases Int.le_total 0 z with h | h
    · have := Int.tmod_nonneg m h; omega
    · have h2 := Int.tmod_nonneg (a := -z) m (by omega)
      have h3 := Int.tmod_lt_of_pos (-z) hm
      rw [Int.neg_tmod] at h2 h3
      omega
  have hrem : rem z m = z.tmod m := by rw [hA.rem]
  by_cases hn : z.tmod m < 0
  · obtain ⟨r, hr⟩ : ∃ r : Nat, Int.ofNat r = z.tmod m + m := ⟨(z.tmod m + m).toNat, by show ((_ : Nat) : Int) = _; omega⟩
    have hrm : (r : Int) = (if z.tmod m < 0 then z.tmod m + m else z.tmod m) := by rw [if_pos hn]; exact hr
    have hlt : ilt (rem z m) 0 = true := by rw [hrem, hA.lt]; exact decide_eq_true hn
    have hadd : add .i64 (rem z m) m = Int.ofNat r := by rw [hrem, hA.add, IntWalk.i64_in _ (by omega), hr]
    cbv
    refine ⟨(), by omega, ?_⟩
    cbv
    refine vcIf.yes hlt ?_
    cbv
    refine hret _ (RetEv.ret eOk rfl ⟨r, hrm, ?_⟩)
    show V.p (.int .i64 (add .i64 (rem z m) m)) = _
    rw [hadd]
  · obtain ⟨r, hr⟩ : ∃ r : Nat, Int.ofNat r = z.tmod m := ⟨(z.tmod m).toNat, by show ((_ : Nat) : Int) = _; omega⟩
    have hrm : (r : Int) = (if z.tmod m < 0 then z.tmod m + m else z.tmod m) := by rw [if_neg hn]; exact hr
    have hlt : ilt (rem z m) 0 = false := by rw [hrem, hA.lt]; exact decide_eq_false hn
    cbv
    refine ⟨(), by omega, ?_⟩
    cbv
    refine vcIf.no hlt ?_
    cbv
    refine hret _ (RetEv.ret eOk rfl ⟨r, hrm, ?_⟩)
    show V.p (.int .i64 (rem z m)) = _
    rw [hrem, hr]
theorem awake13_spec : FnL Try.prog 15 [] [] fun v own => v = .p (.bool true) ∧ own = [] := by
  refine FnL.flat (R := fun v own => v = .p (.bool true)) ?_ (by rintro _ _ rfl; exact ⟨_, _, rfl, .refl _, rfl, rfl⟩)
  refine fn_of_vc eOk fOk fo15 Try.func15 rfl rfl rfl fun B hB => ?_
  intro add sub mul quo rem band bor bxor bclr shl shr ieq ilt ile seq slt beq bnot orb bcond iwrap iof ssz hA cat sq sl imin imax smin smax len slen u8 hL op hop call hcall code hcode ret hret
  cbv
  refine hcall _ _ _ _ _ (CallEv.same (nvPromise_spec 0 0 0 0 0 0 1 0) rfl ?_)
  rintro _ _ ⟨(⟨_, rfl⟩ | ⟨h, rfl⟩), rfl⟩
  rotate_left
  · exact absurd h (by decide)
  cbv
  refine hcall _ _ _ _ _ (CallEv.same (nvTake_spec 1 0 0 0 0 0 1 0 3 0) rfl ?_)
  rintro _ _ ⟨(⟨h, rfl⟩ | ⟨_, rfl⟩), rfl⟩
  · exact absurd h (by decide)
  cbv
  repeat (first | (refine vcIf.yes ?_ ?_; (focus (simp [hA.not, hA.eq, hA.lt, hA.le, hA.cond, hA.beq, hA.orb, hL.len, hL.slen, hL.sq]; done)); cbv) | (refine vcIf.no ?_ ?_; (focus (simp [hA.not, hA.eq, hA.lt, hA.le, hA.cond, hA.beq, hA.orb, hL.len, hL.slen, hL.sq]; done)); cbv) | fail)
  refine ⟨false, ?_⟩
  cbv
  refine hcall _ _ _ _ _ (CallEv.same (nvBest_spec [⟨1, 0, 0, 0, 0, 0⟩, ⟨1, 0, 1, 0, 3, 0⟩] _ rfl (by decide)) rfl ?_)
  rintro _ _ ⟨rfl, rfl⟩
  cbv
  exact hret _ (RetEv.ret eOk rfl (by simp [hA.not, hA.eq, hA.lt, hA.le, hA.cond, hA.beq, hA.orb, hL.len, hL.slen, hL.sq, oneOf]))
end Go.Proofs.Ytdbagbklhchbkaa
