/- LSe1, LSe2, LSe3 together. Conditions: on sizes. -/
import Derived.Test.YtnigonhkfpnodaaLBo6
import Derived.Test.YtnigonhkfpnodaaLPcm
import Derived.Test.YtnigonhkfpnodaaLSqm
import Derived.Test.YtnigonhkfpnodaaLFtm
import Derived.Test.YtnigonhkfpnodaaLY13
set_option maxRecDepth 100000
set_option maxHeartbeats 16000000
set_option linter.unusedSimpArgs false
set_option linter.unusedVariables false
section
namespace Go.Proofs.Ytnigonhkfpnodaa
open Go Go.Lx
open Go.Sx (vcIf)

theorem shOpen_nil (lo hi : List UInt8) : FnL Try.prog 24 [.p .nilp, .p (.agg [.str lo, .str hi])] [] fun v own => v = .p (.tup [.nilp, .int .i64 1]) ∧ own = [] := by
  refine FnL.flat (R := fun v own => v = .p (.tup [.nilp, .int .i64 1])) ?_ (by rintro _ _ rfl; exact ⟨_, _, rfl, .refl _, rfl, rfl⟩)
  refine fn_of_vc eOk fOk fo24 Try.func24 rfl rfl rfl fun B hB => ?_
  intro add sub mul quo rem band bor bxor bclr shl shr ieq ilt ile seq slt beq bnot orb bcond iwrap iof ssz hA cat sq sl imin imax smin smax len slen u8 hL op hop call hcall code hcode ret hret
  cbv
  refine hcall _ _ _ _ _ (CallEv.same (empty_spec lo hi) rfl ?_)
  rintro _ _ ⟨b, hb, rfl, rfl⟩
  cbv
  cases b
  · have hmx : imax (slen lo) (slen hi) = Int.ofNat (max lo.length hi.length) := by
      rw [hL.imax, hL.slen, hL.slen]; simp only [Int.ofNat_eq_natCast]; split <;> omega
    obtain ⟨mx, hmxe⟩ : ∃ m, m = max lo.length hi.length := ⟨_, rfl⟩
    rw [← hmxe] at hmx
    cbv
    by_cases h17 : 17 < mx
    · refine vcIf.yes (by first | (simp [hA.not, hA.eq, hA.lt, hA.le, hA.cond, hA.beq, hA.orb, hL.len, hL.slen, hL.sq, hmx, h17]; done) | (simp only [hmx, h17]; simp [hA.not, hA.eq, hA.lt, hA.le, hA.cond, hA.beq, hA.orb, hL.len, hL.slen, hL.sq, hmx, h17]; done) | (simp [hA.not, hA.eq, hA.lt, hA.le, hA.cond, hA.beq, hA.orb, hL.len, hL.slen, hL.sq, hmx, h17]; omega) | (simp only [hmx, h17]; simp [hA.not, hA.eq, hA.lt, hA.le, hA.cond, hA.beq, hA.orb, hL.len, hL.slen, hL.sq, hmx, h17]; omega)) ?_
      cbv
      exact hret _ (RetEv.ret eOk rfl rfl)
    · refine vcIf.no (by first | (simp [hA.not, hA.eq, hA.lt, hA.le, hA.cond, hA.beq, hA.orb, hL.len, hL.slen, hL.sq, hmx, h17]; done) | (simp only [hmx, h17]; simp [hA.not, hA.eq, hA.lt, hA.le, hA.cond, hA.beq, hA.orb, hL.len, hL.slen, hL.sq, hmx, h17]; done) | (simp [hA.not, hA.eq, hA.lt, hA.le, hA.cond, hA.beq, hA.orb, hL.len, hL.slen, hL.sq, hmx, h17]; omega) | (simp only [hmx, h17]; simp [hA.not, hA.eq, hA.lt, hA.le, hA.cond, hA.beq, hA.orb, hL.len, hL.slen, hL.sq, hmx, h17]; omega)) ?_
      cbv
      refine hcall _ _ _ _ _ (CallEv.same bkOpen_nil rfl ?_)
      rintro _ _ ⟨rfl, rfl⟩
      cbv
      refine vcIf.yes (by first | (simp [hA.not, hA.eq, hA.lt, hA.le, hA.cond, hA.beq, hA.orb, hL.len, hL.slen, hL.sq]; done) | (simp [hA.not, hA.eq, hA.lt, hA.le, hA.cond, hA.beq, hA.orb, hL.len, hL.slen, hL.sq]; omega)) ?_
      cbv
      exact hret _ (RetEv.ret eOk rfl rfl)
  · cbv
    exact hret _ (RetEv.ret eOk rfl rfl)

/-- A shelf: the tape, its bytes, the book, its records, the Past, its layers, the shelf. -/
abbrev shO (n : Nat) (su ro af : Int) (d : Bool) (xs : List PV) (m : Nat) (dn : Bool) (rs : List PV) (a f l : Int) (zs : List PV) (k : Nat) (ys : List PV) (lo hi : List UInt8) : List Res :=
  [tpS n su ro af d, tpA xs, bkS m dn, bkA rs, .st 146 [.p (.int .i64 a), .p (.sl zs), .vw 5 2 0 k none, .p (.int .i64 f), .p (.int .i64 l)], psA ys, .st 108 [.own 4 0, .own 2 0, .p (.str lo), .p (.str hi)]]
theorem shL {own : List Res} {js : List Nat} {i j k q p y c : Nat} {n : Nat} {su ro af : Int} {d : Bool} {xs : List PV} {m : Nat} {dn : Bool} {rs : List PV} {a f l : Int} {zs : List PV} {N : Nat} {ys : List PV} {lo hi : List UInt8}
    (h0 : js[0]? = some i) (h1 : js[1]? = some j) (h2 : js[2]? = some k) (h3 : js[3]? = some q) (h4 : js[4]? = some p) (h5 : js[5]? = some y)
    (g0 : own[i]? = some (.st 96 [.vw j 1 0 n none, .p (.int .i64 su), .p (.int .i64 ro), .p (.int .i64 af), .p (.bool d)])) (g1 : own[j]? = some (tpA xs)) (g2 : own[k]? = some (.st 131 [.own i 0, .vw q 1 0 m none, .p (.bool dn)])) (g3 : own[q]? = some (bkA rs))
    (g4 : own[p]? = some (.st 146 [.p (.int .i64 a), .p (.sl zs), .vw y 2 0 N none, .p (.int .i64 f), .p (.int .i64 l)])) (g5 : own[y]? = some (psA ys)) (g6 : own[c]? = some (.st 108 [.own p 0, .own k 0, .p (.str lo), .p (.str hi)])) :
    TrO own js [] [i, j, k, q, p, y, c] (shO n su ro af d xs m dn rs a f l zs N ys lo hi) :=
  ⟨⟨_, g0, .st _ _ _ (.cons (.vw 1 j 1 0 n none h1) (.cons (.p _) (.cons (.p _) (.cons (.p _) (.cons (.p _) .nil)))))⟩, ⟨_, g1, .arr _ _ _⟩, ⟨_, g2, .st _ _ _ (.cons (.own 0 i 0 h0) (.cons (.vw 3 q 1 0 m none h3) (.cons (.p _) .nil)))⟩, ⟨_, g3, .arr _ _ _⟩,
    ⟨_, g4, .st _ _ _ (.cons (.p _) (.cons (.p _) (.cons (.vw 5 y 2 0 N none h5) (.cons (.p _) (.cons (.p _) .nil)))))⟩, ⟨_, g5, .arr _ _ _⟩,
    ⟨_, g6, .st _ _ _ (.cons (.own 4 p 0 h4) (.cons (.own 2 k 0 h2) (.cons (.p _) (.cons (.p _) .nil))))⟩, trivial⟩
theorem shOpen0_spec (lo hi : List UInt8) (hlt : Op.bytesLess lo hi = true) (h1 : lo.length ≤ 17) (h2 : hi.length ≤ 17) (room : Nat) (hroom : room ≤ 1048576) :
    FnL Try.prog 24 [.own 0 0, .p (.agg [.str lo, .str hi])] [tpS 0 0 room (-1) false, tpA []] fun v own => ∃ (n : Nat) (su ro af : Int) (d : Bool) (xs : List PV) (m : Nat) (dn : Bool) (rs : List PV),
      IsBk ⟨⟨[], 0, room, -1, false⟩, [], false⟩ n su ro af d xs m dn rs ∧ v = .tup [.own 6 0, .p (.int .i64 0)] ∧ own = shO n su ro af d xs m dn rs 0 0 0 [] 0 [] lo hi := by
  have hopn := bkOpen_spec (isTp0 room hroom)
  rw [bkOpen0] at hopn
  refine fn_of_vc eOk fOk fo24 Try.func24 rfl rfl rfl fun B hB => ?_
  intro add sub mul quo rem band bor bxor bclr shl shr ieq ilt ile seq slt beq bnot orb bcond iwrap iof ssz hA cat sq sl imin imax smin smax len slen u8 hL op hop call hcall code hcode ret hret
  have hmx : imax (slen lo) (slen hi) = Int.ofNat (max lo.length hi.length) := by
    rw [hL.imax, hL.slen, hL.slen]; simp only [Int.ofNat_eq_natCast]; split <;> omega
  obtain ⟨mx, hmxe⟩ : ∃ m, m = max lo.length hi.length := ⟨_, rfl⟩
  rw [← hmxe] at hmx
  have h17 : ¬ 17 < mx := by omega
  cbv
  refine hcall _ _ _ _ _ (CallEv.same (empty_spec lo hi) rfl ?_)
  rintro _ _ ⟨b, hb, rfl, rfl⟩
  rw [hlt] at hb
  obtain rfl : b = false := hb
  cbv
  refine vcIf.no (by first | (simp [hA.not, hA.eq, hA.lt, hA.le, hA.cond, hA.beq, hA.orb, hL.len, hL.slen, hL.sq, hmx, h17]; done) | (simp only [hmx, h17]; simp [hA.not, hA.eq, hA.lt, hA.le, hA.cond, hA.beq, hA.orb, hL.len, hL.slen, hL.sq, hmx, h17]; done) | (simp [hA.not, hA.eq, hA.lt, hA.le, hA.cond, hA.beq, hA.orb, hL.len, hL.slen, hL.sq, hmx, h17]; omega) | (simp only [hmx, h17]; simp [hA.not, hA.eq, hA.lt, hA.le, hA.cond, hA.beq, hA.orb, hL.len, hL.slen, hL.sq, hmx, h17]; omega)) ?_
  cbv
  refine hcall _ _ _ _ _ (CallEv.lend [0, 1] hopn rfl (.cons (.own 0 0 0 rfl) .nil) (tpL rfl rfl rfl rfl) ?_)
  rintro _ _ (⟨n, su, ro, af, d, xs, m, dn, rs, h0, hb1, rfl, rfl⟩ | ⟨e, n, su, ro, af, d, xs, h0, _⟩)
  rotate_left
  · exact absurd rfl h0
  replace hb1 : IsBk ⟨⟨[], 0, room, -1, false⟩, [], false⟩ n su ro af d xs m dn rs := hb1
  have hrec := bkRecords_spec hb1 (by simp) (by rw [hb1.2.1]; simp)
  have hrs : rs = [] := hb1.2.2.2
  have hlen : len rs = 0 := by rw [hL.len, hrs]; rfl
  cbv
  refine vcIf.no (by first | (simp [hA.not, hA.eq, hA.lt, hA.le, hA.cond, hA.beq, hA.orb, hL.len, hL.slen, hL.sq]; done) | (simp [hA.not, hA.eq, hA.lt, hA.le, hA.cond, hA.beq, hA.orb, hL.len, hL.slen, hL.sq]; omega)) ?_
  cbv
  refine hcode _ _ _ (CodeEv.drawT eOk fOk (by kernel_rfl) (Xof 5 []) (.rd 1 (.rd 2 (.acts (.cons 0 (.so 3 (.acts (.cons 4 (.so 5 (.done)) (.nil)))) (.nil))))) (by kernel_rfl) (by kernel_rfl) ?_)
  intro add2 sub2 mul2 quo2 rem2 band2 bor2 bxor2 bclr2 shl2 shr2 ieq2 ilt2 ile2 seq2 slt2 beq2 bnot2 orb2 bcond2 iwrap2 iof2 ssz2 hA2 cat2 sq2 sl2 imin2 imax2 smin2 smax2 len2 slen2 u82 hL2 op2 hop2 call2 hcall2 code2 hcode2 q2 hq2
  cbv
  refine hcall2 _ _ _ _ _ (CallEv.pure pastNew_spec .nil ?_)
  rintro _ _ ⟨rfl, rfl⟩
  cbv
  refine hq2 _ ?_
  cbv
  refine hcall _ _ _ _ _ (CallEv.lend [0, 1, 3, 4] hrec rfl (.cons (.own 2 3 0 rfl) .nil) (bkL rfl rfl rfl rfl rfl rfl rfl) ?_)
  rintro _ _ ⟨rfl, rfl⟩
  cbv
  refine vcIf.no (by first | (simp [hA.not, hA.eq, hA.lt, hA.le, hA.cond, hA.beq, hA.orb, hL.len, hL.slen, hL.sq, hlen]; done) | (simp only [hlen]; simp [hA.not, hA.eq, hA.lt, hA.le, hA.cond, hA.beq, hA.orb, hL.len, hL.slen, hL.sq, hlen]; done) | (simp [hA.not, hA.eq, hA.lt, hA.le, hA.cond, hA.beq, hA.orb, hL.len, hL.slen, hL.sq, hlen]; omega) | (simp only [hlen]; simp [hA.not, hA.eq, hA.lt, hA.le, hA.cond, hA.beq, hA.orb, hL.len, hL.slen, hL.sq, hlen]; omega)) ?_
  cbv
  exact hret _ (RetEv.convW (ConvW.pack [0, 1, 3, 4, 5, 6, 7] hB rfl) (RetEv.ret eOk rfl ⟨n, su, ro, af, d, xs, m, dn, rs, hb1, rfl, rfl⟩))
theorem shTake_nil (a b c : Int) (zs : List PV) : FnL Try.prog 25 [.p .nilp, .p (.agg [.int .i64 a, .int .i64 b, .int .i64 c, .sl zs])] [] fun v own => v = .p (.int .i64 1) ∧ own = [] := by
  refine FnL.flat (R := fun v own => v = .p (.int .i64 1)) ?_ (by rintro _ _ rfl; exact ⟨_, _, rfl, .refl _, rfl, rfl⟩)
  refine fn_of_vc eOk fOk fo25 Try.func25 rfl rfl rfl fun B hB => ?_
  intro add sub mul quo rem band bor bxor bclr shl shr ieq ilt ile seq slt beq bnot orb bcond iwrap iof ssz hA cat sq sl imin imax smin smax len slen u8 hL op hop call hcall code hcode ret hret
  cbv
  exact hret _ (RetEv.ret eOk rfl rfl)
theorem shGet_nil (k : List UInt8) (n : Int) : FnL Try.prog 29 [.p .nilp, .p (.str k), .p (.int .i64 n)] [] fun v own => v = .p (.tup [.str [], .bool false, .int .i64 1]) ∧ own = [] := by
  refine fn_of_vc eOk fOk fo29 Try.func29 rfl rfl rfl fun B hB => ?_
  intro add sub mul quo rem band bor bxor bclr shl shr ieq ilt ile seq slt beq bnot orb bcond iwrap iof ssz hA cat sq sl imin imax smin smax len slen u8 hL op hop call hcall code hcode ret hret
  cbv
  exact hret _ (RetEv.ret eOk rfl ⟨rfl, rfl⟩)
theorem shList_nil (lo hi : List UInt8) (n m : Int) : FnL Try.prog 26 [.p .nilp, .p (.agg [.str lo, .str hi]), .p (.int .i64 n), .p (.int .i64 m)] [] fun v own => v = .p (.tup [.nils, .int .i64 1]) ∧ own = [] := by
  refine FnL.flat (R := fun v own => v = .p (.tup [.nils, .int .i64 1])) ?_ (by rintro _ _ rfl; exact ⟨_, _, rfl, .refl _, rfl, rfl⟩)
  refine fn_of_vc eOk fOk fo26 Try.func26 rfl rfl rfl fun B hB => ?_
  intro add sub mul quo rem band bor bxor bclr shl shr ieq ilt ile seq slt beq bnot orb bcond iwrap iof ssz hA cat sq sl imin imax smin smax len slen u8 hL op hop call hcall code hcode ret hret
  cbv
  exact hret _ (RetEv.ret eOk rfl rfl)
theorem shBack_nil (n : Int) : FnL Try.prog 30 [.p .nilp, .p (.int .i64 n)] [] fun v own => v = .p (.int .i64 1) ∧ own = [] := by
  refine fn_of_vc eOk fOk fo30 Try.func30 rfl rfl rfl fun B hB => ?_
  intro add sub mul quo rem band bor bxor bclr shl shr ieq ilt ile seq slt beq bnot orb bcond iwrap iof ssz hA cat sq sl imin imax smin smax len slen u8 hL op hop call hcall code hcode ret hret
  cbv
  exact hret _ (RetEv.ret eOk rfl ⟨rfl, rfl⟩)
theorem shSave_nil (n : Int) : FnL Try.prog 31 [.p .nilp, .p (.int .i64 n)] [] fun v own => v = .p (.int .i64 1) ∧ own = [] := by
  refine fn_of_vc eOk fOk fo31 Try.func31 rfl rfl rfl fun B hB => ?_
  intro add sub mul quo rem band bor bxor bclr shl shr ieq ilt ile seq slt beq bnot orb bcond iwrap iof ssz hA cat sq sl imin imax smin smax len slen u8 hL op hop call hcall code hcode ret hret
  cbv
  exact hret _ (RetEv.ret eOk rfl ⟨rfl, rfl⟩)
theorem shEnds_nil : FnL Try.prog 28 [.p .nilp] [] fun v own => v = .p (.tup [.int .i64 0, .int .i64 0]) ∧ own = [] := by
  refine fn_of_vc eOk fOk fo28 Try.func28 rfl rfl rfl fun B hB => ?_
  intro add sub mul quo rem band bor bxor bclr shl shr ieq ilt ile seq slt beq bnot orb bcond iwrap iof ssz hA cat sq sl imin imax smin smax len slen u8 hL op hop call hcall code hcode ret hret
  cbv
  exact hret _ (RetEv.ret eOk rfl ⟨rfl, rfl⟩)
theorem shEnds_spec {n : Nat} {su ro af : Int} {d : Bool} {xs : List PV} {m : Nat} {dn : Bool} {rs : List PV} (a f l : Int) (zs : List PV) (k : Nat) (ys : List PV) (lo hi : List UInt8) :
    FnL Try.prog 28 [.own 6 0] (shO n su ro af d xs m dn rs a f l zs k ys lo hi) fun v own => v = .p (.tup [.int .i64 f, .int .i64 l]) ∧ own = shO n su ro af d xs m dn rs a f l zs k ys lo hi := by
  have hen := ends_spec a f l zs ((ys.drop 0).take k)
  refine fn_of_vc eOk fOk fo28 Try.func28 rfl rfl rfl fun B hB => ?_
  intro add sub mul quo rem band bor bxor bclr shl shr ieq ilt ile seq slt beq bnot orb bcond iwrap iof ssz hA cat sq sl imin imax smin smax len slen u8 hL op hop call hcall code hcode ret hret
  cbv
  refine hcall _ _ _ _ _ (CallEv.shown [] [4, 5] hen rfl (.cons (psT (by decide) (by decide) rfl rfl _ rfl) .nil) trivial ?_)
  rintro _ _ ⟨rfl, rfl⟩
  refine ⟨.p _ (.tup _ fun c hc => by simp only [List.mem_cons, List.not_mem_nil, or_false] at hc; rcases hc with rfl | rfl <;> exact .int _ _), (by intro r hr; cases hr), ?_⟩
  cbv
  exact hret _ (RetEv.ret eOk rfl ⟨rfl, rfl⟩)
/-- List: what it answers lies in a row of its own. -/
theorem shList_spec {n : Nat} {su ro af : Int} {d : Bool} {xs : List PV} {m : Nat} {dn : Bool} {rs : List PV} (a f l : Int) (ps : List Pr) (hps : Srt ps) (ls : List Lay) (M : Nat) (hM : ∀ l ∈ ls, l.ch.length ≤ M) (hck : ∀ l ∈ ls, chks l.ch = 0) (hsz : (ps.length + ls.length * M + 1) * 32 ≤ 140737488355328) (hn : ls.length < 281474976710656)
    (zs : List PV) (hzs : zs = prP ps) (k : Nat) (ys : List PV) (hys : ys = layP ls) (hk : k = ls.length) (lo hi : List UInt8) (lo2 hi2 : List UInt8) (v most : Int) :
    FnL Try.prog 26 [.own 6 0, .p (.agg [.str lo2, .str hi2]), .p (.int .i64 v), .p (.int .i64 most)] (shO n su ro af d xs m dn rs a f l zs k ys lo hi) fun r own => ∃ (e : Nat) (us : List PV) (z : Nat), e = liE f l v most ∧ us = prP (liP f l ps ls v (mt ⟨lo2, hi2⟩ ⟨lo, hi⟩) most) ∧ z = us.length ∧
      r = .tup [.vw 7 2 0 z none, .p (.int .i64 (Int.ofNat e))] ∧ own = shO n su ro af d xs m dn rs a f l zs k ys lo hi ++ [.arr 102 2 us] := by
  obtain ⟨X, hX⟩ : ∃ X, X = (ys.drop 0).take k := ⟨_, rfl⟩
  have hXl : X = layP ls := by rw [hX, List.drop_zero, hk, ← layP_length, ← hys, List.take_length]
  obtain ⟨⟨w1, w2⟩, hq⟩ : ∃ q, q = mt ⟨lo2, hi2⟩ ⟨lo, hi⟩ := ⟨_, rfl⟩
  have hmt := meet_spec lo2 hi2 lo hi
  rw [← hq] at hmt ⊢
  have hli := listW_spec a f l v w1 w2 most ps hps ls M hM hck hsz hn zs hzs X hXl
  refine fn_of_vc eOk fOk fo26 Try.func26 rfl rfl rfl fun B hB => ?_
  intro add sub mul quo rem band bor bxor bclr shl shr ieq ilt ile seq slt beq bnot orb bcond iwrap iof ssz hA cat sq sl imin imax smin smax len slen u8 hL op hop call hcall code hcode ret hret
  cbv
  refine hcode _ _ _ (CodeEv.drawT eOk fOk (by kernel_rfl) (Xof 8 []) (.rd 0 (.rd 1 (.rd 2 (.rd 3 (.rd 4 (.rd 5 (.rd 6 (.rd 7 (.rd 8 (.rd 10 (.rd 11 (.acts (.cons 9 (.acts (.cons 12 (.rd 13 (.so 14 (.so 15 (.so 16 (.done))))) (.nil))) (.nil)))))))))))))) (by kernel_rfl) (by kernel_rfl) ?_)
  intro add2 sub2 mul2 quo2 rem2 band2 bor2 bxor2 bclr2 shl2 shr2 ieq2 ilt2 ile2 seq2 slt2 beq2 bnot2 orb2 bcond2 iwrap2 iof2 ssz2 hA2 cat2 sq2 sl2 imin2 imax2 smin2 smax2 len2 slen2 u82 hL2 op2 hop2 call2 hcall2 code2 hcode2 q2 hq2
  cbv
  refine hcall2 _ _ _ _ _ (CallEv.same hmt rfl ?_)
  rintro _ _ ⟨m', rfl, rfl, rfl⟩
  cbv
  refine hcall2 _ _ _ _ _ (CallEv.shown [] [4, 5] hli rfl (.cons (psT (by decide) (by decide) rfl rfl _ hX) (.cons (.p _) (.cons (.p _) (.cons (.p _) .nil)))) trivial ?_)
  rintro _ _ ⟨e, us, z, he, hus, hz, rfl, rfl⟩
  refine ⟨flat_l1, flat_l2 hus, ?_⟩
  cbv
  refine hq2 _ ?_
  cbv
  exact hret _ (RetEv.convW (ConvW.pack [0, 1, 2, 3, 4, 5, 6, 8] hB rfl) (RetEv.ret eOk rfl ⟨e, us, z, he, hus, hz, rfl, rfl⟩))
/-- Take. -/
def tkE (sp : Spn) (l : Int) (s : Bat) : Nat :=
  if (bEnc s).2 ≠ 0 then (bEnc s).2 else if s.b ≤ l then 0 else if l < s.a ∨ s.b ≤ s.a then 9 else if cutE sp s.ch ≠ 0 then cutE sp s.ch else adE l s.b (cutR sp s.ch)
theorem shTake_spec {n : Nat} {su ro af : Int} {d : Bool} {xs : List PV} {m : Nat} {dn : Bool} {rs : List PV} (a f l : Int) (zs : List PV) (k : Nat) (ys : List PV) (hk : k = ys.length) (hkm : (k + 1) * 32 ≤ 140737488355328) (lo hi : List UInt8) (hlo : lo.length < 140737488355328) (hhi : hi.length < 140737488355328)
    (s : Bat) (hs : s.fit) (hsn : s.ch.length * 40 ≤ 140737488355328) (hcn : (cutR ⟨lo, hi⟩ s.ch).length * 40 ≤ 140737488355328) (cs : List PV) (hcs : cs = cP s.ch) :
    FnL Try.prog 25 [.own 6 0, .p (.agg [.int .i64 s.a, .int .i64 s.b, .int .i64 s.c, .sl cs])] (shO n su ro af d xs m dn rs a f l zs k ys lo hi) fun v own => ∃ e : Nat, e = tkE ⟨lo, hi⟩ l s ∧ v = .p (.int .i64 (Int.ofNat e)) ∧
      (((e ≠ 0 ∨ s.b ≤ l) ∧ own = shO n su ro af d xs m dn rs a f l zs k ys lo hi) ∨ (e = 0 ∧ ¬ s.b ≤ l ∧ ∃ ws k', k' = k + 1 ∧ ws = ys ++ [.agg [.int .i64 s.b, .sl (cP (cutR ⟨lo, hi⟩ s.ch))]] ∧ own = shO n su ro af d xs m dn rs a f s.b zs k' ws lo hi)) := by
  obtain ⟨E, hE⟩ : ∃ E, E = tkE ⟨lo, hi⟩ l s := ⟨_, rfl⟩
  rw [← hE]
  unfold tkE at hE
  have hpb := frPutBatch_spec s hs cs hcs
  have hen := ends_spec a f l zs ((ys.drop 0).take k)
  have hcu := chCut_spec ⟨lo, hi⟩ hlo hhi s.ch hs.2.1 hsn cs hcs
  obtain ⟨R, hR⟩ : ∃ R, R = cutR ⟨lo, hi⟩ s.ch := ⟨_, rfl⟩
  obtain ⟨ct, hct⟩ : ∃ ct, ct = cP R := ⟨_, rfl⟩
  rw [← hR] at hcu hE hcn ⊢
  rw [← hct] at hcu ⊢
  obtain ⟨C, hC⟩ : ∃ C, C = cutE ⟨lo, hi⟩ s.ch := ⟨_, rfl⟩
  rw [← hC] at hcu hE
  obtain ⟨⟨B0, P⟩, hP⟩ : ∃ P, P = bEnc s := ⟨_, rfl⟩
  rw [← hP] at hpb hE
  simp only at hE
  have had := padd_spec a f l s.b R hcn zs ys k hk hkm ct hct
  obtain ⟨sa, sb, sc, ch⟩ := s
  simp only at hE hpb had hen hcu hcs hP hC hR ⊢
  clear hs hsn hcs hC hP hR
  refine fn_of_vc eOk fOk fo25 Try.func25 rfl rfl rfl fun B hB => ?_
  intro add sub mul quo rem band bor bxor bclr shl shr ieq ilt ile seq slt beq bnot orb bcond iwrap iof ssz hA cat sq sl imin imax smin smax len slen u8 hL op hop call hcall code hcode ret hret
  cbv
  refine hcall _ _ _ _ _ (CallEv.same hpb rfl ?_)
  rintro _ _ ⟨bs, bl0, e0, he0, hbs, rfl, rfl⟩
  have hPe : P = e0 := by injection he0 with _ h; exact h.symm
  clear he0
  cbv
  by_cases h0 : e0 = 0
  rotate_left
  · rw [if_pos (by omega)] at hE
    have hz : ¬ Int.ofNat e0 = 0 := by simp only [Int.ofNat_eq_natCast]; omega
    refine vcIf.yes (by first | (simp [hA.not, hA.eq, hA.lt, hA.le, hA.cond, hA.beq, hA.orb, hL.len, hL.slen, hL.sq, h0, hz]; done) | (simp only [h0, hz]; simp [hA.not, hA.eq, hA.lt, hA.le, hA.cond, hA.beq, hA.orb, hL.len, hL.slen, hL.sq, h0, hz]; done) | (simp [hA.not, hA.eq, hA.lt, hA.le, hA.cond, hA.beq, hA.orb, hL.len, hL.slen, hL.sq, h0, hz]; omega) | (simp only [h0, hz]; simp [hA.not, hA.eq, hA.lt, hA.le, hA.cond, hA.beq, hA.orb, hL.len, hL.slen, hL.sq, h0, hz]; omega)) ?_
    cbv
    exact hret _ (RetEv.convW (ConvW.pack [0, 1, 2, 3, 4, 5, 6] hB rfl) (RetEv.ret eOk rfl ⟨e0, by omega, rfl, .inl ⟨.inl h0, rfl⟩⟩))
  rw [if_neg (by omega)] at hE
  refine vcIf.no (by first | (simp [hA.not, hA.eq, hA.lt, hA.le, hA.cond, hA.beq, hA.orb, hL.len, hL.slen, hL.sq, h0]; done) | (simp only [h0]; simp [hA.not, hA.eq, hA.lt, hA.le, hA.cond, hA.beq, hA.orb, hL.len, hL.slen, hL.sq, h0]; done) | (simp [hA.not, hA.eq, hA.lt, hA.le, hA.cond, hA.beq, hA.orb, hL.len, hL.slen, hL.sq, h0]; omega) | (simp only [h0]; simp [hA.not, hA.eq, hA.lt, hA.le, hA.cond, hA.beq, hA.orb, hL.len, hL.slen, hL.sq, h0]; omega)) ?_
  cbv
  refine hcall _ _ _ _ _ (CallEv.shown [] [4, 5] hen rfl (.cons (psT (by decide) (by decide) rfl rfl _ rfl) .nil) trivial ?_)
  rintro _ _ ⟨rfl, rfl⟩
  refine ⟨.p _ (.tup _ fun c hc => by simp only [List.mem_cons, List.not_mem_nil, or_false] at hc; rcases hc with rfl | rfl <;> exact .int _ _), (by intro r hr; cases hr), ?_⟩
  cbv
  by_cases h1 : sb ≤ l
  · rw [if_pos h1] at hE
    refine vcIf.yes (by first | (simp [hA.not, hA.eq, hA.lt, hA.le, hA.cond, hA.beq, hA.orb, hL.len, hL.slen, hL.sq, h1]; done) | (simp only [h1]; simp [hA.not, hA.eq, hA.lt, hA.le, hA.cond, hA.beq, hA.orb, hL.len, hL.slen, hL.sq, h1]; done) | (simp [hA.not, hA.eq, hA.lt, hA.le, hA.cond, hA.beq, hA.orb, hL.len, hL.slen, hL.sq, h1]; omega) | (simp only [h1]; simp [hA.not, hA.eq, hA.lt, hA.le, hA.cond, hA.beq, hA.orb, hL.len, hL.slen, hL.sq, h1]; omega)) ?_
    cbv
    exact hret _ (RetEv.convW (ConvW.pack [0, 1, 2, 3, 4, 5, 6] hB rfl) (RetEv.ret eOk rfl ⟨0, hE.symm, rfl, .inl ⟨.inr h1, rfl⟩⟩))
  rw [if_neg h1] at hE
  refine vcIf.no (by first | (simp [hA.not, hA.eq, hA.lt, hA.le, hA.cond, hA.beq, hA.orb, hL.len, hL.slen, hL.sq, h1]; done) | (simp only [h1]; simp [hA.not, hA.eq, hA.lt, hA.le, hA.cond, hA.beq, hA.orb, hL.len, hL.slen, hL.sq, h1]; done) | (simp [hA.not, hA.eq, hA.lt, hA.le, hA.cond, hA.beq, hA.orb, hL.len, hL.slen, hL.sq, h1]; omega) | (simp only [h1]; simp [hA.not, hA.eq, hA.lt, hA.le, hA.cond, hA.beq, hA.orb, hL.len, hL.slen, hL.sq, h1]; omega)) ?_
  cbv
  by_cases h2 : l < sa ∨ sb ≤ sa
  · rw [if_pos h2] at hE
    by_cases h3 : l < sa
    · repeat (first | (refine vcIf.yes ?_ ?_; (focus (simp [hA.not, hA.eq, hA.lt, hA.le, hA.cond, hA.beq, hA.orb, hL.len, hL.slen, hL.sq, h3]; done)); cbv) | (refine vcIf.no ?_ ?_; (focus (simp [hA.not, hA.eq, hA.lt, hA.le, hA.cond, hA.beq, hA.orb, hL.len, hL.slen, hL.sq, h3]; done)); cbv) | fail)
      exact hret _ (RetEv.convW (ConvW.pack [0, 1, 2, 3, 4, 5, 6] hB rfl) (RetEv.ret eOk rfl ⟨9, hE.symm, rfl, .inl ⟨.inl (by decide), rfl⟩⟩))
    · have h4 : sb ≤ sa := h2.resolve_left h3
      repeat (first | (refine vcIf.yes ?_ ?_; (focus (simp [hA.not, hA.eq, hA.lt, hA.le, hA.cond, hA.beq, hA.orb, hL.len, hL.slen, hL.sq, h3, h4]; done)); cbv) | (refine vcIf.no ?_ ?_; (focus (simp [hA.not, hA.eq, hA.lt, hA.le, hA.cond, hA.beq, hA.orb, hL.len, hL.slen, hL.sq, h3, h4]; done)); cbv) | fail)
      exact hret _ (RetEv.convW (ConvW.pack [0, 1, 2, 3, 4, 5, 6] hB rfl) (RetEv.ret eOk rfl ⟨9, hE.symm, rfl, .inl ⟨.inl (by decide), rfl⟩⟩))
  rw [if_neg h2] at hE
  have h3 : ¬ l < sa := fun c => h2 (.inl c)
  have h4 : ¬ sb ≤ sa := fun c => h2 (.inr c)
  repeat (first | (refine vcIf.yes ?_ ?_; (focus (simp [hA.not, hA.eq, hA.lt, hA.le, hA.cond, hA.beq, hA.orb, hL.len, hL.slen, hL.sq, h3, h4]; done)); cbv) | (refine vcIf.no ?_ ?_; (focus (simp [hA.not, hA.eq, hA.lt, hA.le, hA.cond, hA.beq, hA.orb, hL.len, hL.slen, hL.sq, h3, h4]; done)); cbv) | fail)
  refine hcode _ _ _ (CodeEv.drawT eOk fOk (by kernel_rfl) (Xof 8 []) (.rd 0 (.rd 1 (.rd 2 (.rd 3 (.so 4 (.so 5 (.acts (.cons 6 (.so 7 (.rd 8 (.rd 9 (.so 10 (.so 11 (.done)))))) (.nil))))))))) (by kernel_rfl) (by kernel_rfl) ?_)
  intro add2 sub2 mul2 quo2 rem2 band2 bor2 bxor2 bclr2 shl2 shr2 ieq2 ilt2 ile2 seq2 slt2 beq2 bnot2 orb2 bcond2 iwrap2 iof2 ssz2 hA2 cat2 sq2 sl2 imin2 imax2 smin2 smax2 len2 slen2 u82 hL2 op2 hop2 call2 hcall2 code2 hcode2 q2 hq2
  cbv
  refine hcall2 _ _ _ _ _ (CallEv.same hcu rfl ?_)
  rintro _ _ ⟨rfl, rfl⟩
  cbv
  refine hq2 _ ?_
  cbv
  by_cases h5 : C = 0
  rotate_left
  · rw [if_pos h5] at hE
    have hz2 : ¬ Int.ofNat C = 0 := by simp only [Int.ofNat_eq_natCast]; omega
    refine vcIf.yes (by first | (simp [hA.not, hA.eq, hA.lt, hA.le, hA.cond, hA.beq, hA.orb, hL.len, hL.slen, hL.sq, h5, hz2]; done) | (simp only [h5, hz2]; simp [hA.not, hA.eq, hA.lt, hA.le, hA.cond, hA.beq, hA.orb, hL.len, hL.slen, hL.sq, h5, hz2]; done) | (simp [hA.not, hA.eq, hA.lt, hA.le, hA.cond, hA.beq, hA.orb, hL.len, hL.slen, hL.sq, h5, hz2]; omega) | (simp only [h5, hz2]; simp [hA.not, hA.eq, hA.lt, hA.le, hA.cond, hA.beq, hA.orb, hL.len, hL.slen, hL.sq, h5, hz2]; omega)) ?_
    cbv
    exact hret _ (RetEv.convW (ConvW.pack [0, 1, 2, 3, 4, 5, 6] hB rfl) (RetEv.ret eOk rfl ⟨C, hE.symm, rfl, .inl ⟨.inl h5, rfl⟩⟩))
  rw [if_neg (by omega)] at hE
  refine vcIf.no (by first | (simp [hA.not, hA.eq, hA.lt, hA.le, hA.cond, hA.beq, hA.orb, hL.len, hL.slen, hL.sq, h5]; done) | (simp only [h5]; simp [hA.not, hA.eq, hA.lt, hA.le, hA.cond, hA.beq, hA.orb, hL.len, hL.slen, hL.sq, h5]; done) | (simp [hA.not, hA.eq, hA.lt, hA.le, hA.cond, hA.beq, hA.orb, hL.len, hL.slen, hL.sq, h5]; omega) | (simp only [h5]; simp [hA.not, hA.eq, hA.lt, hA.le, hA.cond, hA.beq, hA.orb, hL.len, hL.slen, hL.sq, h5]; omega)) ?_
  cbv
  refine hcode _ _ _ (CodeEv.drawT eOk fOk (by kernel_rfl) (Xof 8 [4, 5]) (.rd 0 (.rd 1 (.rd 2 (.rd 3 (.rd 4 (.rd 5 (.so 6 (.acts (.cons 7 (.so 8 (.done)) (.nil)))))))))) (by kernel_rfl) (by kernel_rfl) ?_)
  intro add2 sub2 mul2 quo2 rem2 band2 bor2 bxor2 bclr2 shl2 shr2 ieq2 ilt2 ile2 seq2 slt2 beq2 bnot2 orb2 bcond2 iwrap2 iof2 ssz2 hA2 cat2 sq2 sl2 imin2 imax2 smin2 smax2 len2 slen2 u82 hL2 op2 hop2 call2 hcall2 code2 hcode2 q2 hq2
  cbv
  refine hcall2 _ _ _ _ _ (CallEv.lend [4, 5] had rfl (.cons (.own 0 4 0 rfl) (.cons (.p _) (.cons (.p _) .nil))) (psL rfl rfl rfl rfl) ?_)
  rintro _ _ ⟨e1, he1, rfl, ⟨hne, rfl⟩ | ⟨rfl, ws, m1, hm1, hws, rfl⟩⟩
  · cbv
    refine hq2 _ ?_
    cbv
    exact hret _ (RetEv.convW (ConvW.pack [0, 1, 2, 3, 4, 5, 6] hB rfl) (RetEv.ret eOk rfl ⟨e1, by rw [he1, hE], rfl, .inl ⟨.inl hne, rfl⟩⟩))
  · cbv
    refine hq2 _ ?_
    cbv
    exact hret _ (RetEv.convW (ConvW.pack [0, 1, 2, 3, 4, 5, 6] hB rfl) (RetEv.ret eOk rfl ⟨0, by rw [he1, hE], rfl, .inr ⟨rfl, h1, ws, m1, hm1, hws, rfl⟩⟩))
end Go.Proofs.Ytnigonhkfpnodaa
end
section
namespace Go.Proofs.Ytnigonhkfpnodaa
open Go Go.Lx
open Go.Sx (vcIf)

/-- What a record says of pairs at a version. -/
def svB (v : Int) (W : List Pr) : List UInt8 := encs [v, Int.ofNat W.length] ++ W.flatMap fun p => encts [p.key, p.val]
theorem stepB {a m n i c : Nat} (h : m ≤ c + a * i) (h2 : n ≤ m + a) : n ≤ c + a * (i + 1) := by rw [Nat.mul_succ]; omega
theorem iP2 (a b : Int) : iP [a, b] = [PV.int .i64 a, PV.int .i64 b] := rfl
theorem shSave_spec {n : Nat} {su ro af : Int} {d : Bool} {xs : List PV} {m : Nat} {rs : List PV} {b : Bk} (hb : IsBk b n su ro af d xs m false rs) (a f l v : Int) (ps : List Pr) (hps : Srt ps) (ls : List Lay) (M : Nat) (hM : ∀ l ∈ ls, l.ch.length ≤ M) (hck : ∀ l ∈ ls, chks l.ch = 0) (hsz : (ps.length + ls.length * M + 1) * 32 ≤ 140737488355328) (hn : ls.length * 32 ≤ 140737488355328)
    (zs : List PV) (hzs : zs = prP ps) (k : Nat) (ys : List PV) (hys : ys = layP ls) (hk : k = ls.length) (lo hi : List UInt8) (W : List Pr) (hW : liP f l ps ls v ⟨lo, hi⟩ 65536 = W) (hE : liE f l v 65536 = 0) (hfg : fgE l v = 0) (hv0 : 0 ≤ v) (hv1 : v ≤ 9223372036854775807)
    (hWs : ∀ p ∈ W, p.key.length ≤ 65536 ∧ p.val.length ≤ 65536) (hWn : W.length ≤ 1000) (hsv : (svB v W).length ≤ 65536) (hres : (bkReset b [svB v W]).1 = 0) :
    FnL Try.prog 31 [.own 6 0, .p (.int .i64 v)] (shO n su ro af d xs m false rs a f l zs k ys lo hi) fun r own => r = .p (.int .i64 0) := by
  obtain ⟨X, hX⟩ : ∃ X, X = (ys.drop 0).take k := ⟨_, rfl⟩
  have hXl : X = layP ls := by rw [hX, List.drop_zero, hk, ← layP_length, ← hys, List.take_length]
  have hli := listW_spec a f l v lo hi 65536 ps hps ls M hM hck hsz (by omega) zs hzs X hXl
  rw [hW, hE] at hli
  have hfo := forget_spec a f l v ps hps ls M hM hck hsz hn zs hzs ys hys k hk
  rw [hfg] at hfo
  obtain ⟨N, hN⟩ : ∃ N, N = W.length := ⟨_, rfl⟩
  obtain ⟨S, hS⟩ : ∃ S, S = svB v W := ⟨_, rfl⟩
  have hrs := bkReset_spec hb [S] (by intro r hr; simp only [List.mem_cons, List.not_mem_nil, or_false] at hr; rw [hr, hS]; omega) (by simp) [.sl (bP S)] rfl
  rw [← hS] at hres
  have hn1 := wr0_of (wrNums_spec [v, Int.ofNat N] _ rfl (fun z hz => by
    simp only [List.mem_cons, List.not_mem_nil, or_false] at hz
    rcases hz with rfl | rfl
    · exact hv1
    · simp only [Int.ofNat_eq_natCast]; omega) 0 0 [] rfl (by simp))
  rw [iP2] at hn1
  have hok1 : ∀ z ∈ [v, Int.ofNat N], (0 : Int) ≤ z := fun z hz => by
    simp only [List.mem_cons, List.not_mem_nil, or_false] at hz
    rcases hz with rfl | rfl
    · exact hv0
    · exact Int.natCast_nonneg _
  refine fn_of_vc eOk fOk fo31 Try.func31 rfl rfl rfl fun B hB => ?_
  intro add sub mul quo rem band bor bxor bclr shl shr ieq ilt ile seq slt beq bnot orb bcond iwrap iof ssz hA cat sq sl imin imax smin smax len slen u8 hL op hop call hcall code hcode ret hret
  cbv
  refine hcall _ _ _ _ _ (CallEv.lend [0, 1, 2, 3] (bkReady_spec (n := n) (su := su) (ro := ro) (af := af) (d := d) (xs := xs) (m := m) (dn := false) (rs := rs)) rfl (.cons (.own 2 2 0 rfl) .nil) (bkL rfl rfl rfl rfl rfl rfl rfl) ?_)
  rintro _ _ ⟨rfl, rfl⟩
  cbv
  refine vcIf.no (by first | (simp [hA.not, hA.eq, hA.lt, hA.le, hA.cond, hA.beq, hA.orb, hL.len, hL.slen, hL.sq]; done) | (simp [hA.not, hA.eq, hA.lt, hA.le, hA.cond, hA.beq, hA.orb, hL.len, hL.slen, hL.sq]; omega)) ?_
  cbv
  refine hcode _ _ _ (CodeEv.drawT eOk fOk (by kernel_rfl) (Xof 7 []) (.rd 0 (.rd 1 (.rd 2 (.rd 3 (.rd 4 (.rd 5 (.rd 6 (.rd 7 (.so 8 (.acts (.cons 9 (.so 10 (.rd 11 (.rd 12 (.so 13 (.so 14 (.done)))))) (.nil)))))))))))) (by kernel_rfl) (by kernel_rfl) ?_)
  intro add2 sub2 mul2 quo2 rem2 band2 bor2 bxor2 bclr2 shl2 shr2 ieq2 ilt2 ile2 seq2 slt2 beq2 bnot2 orb2 bcond2 iwrap2 iof2 ssz2 hA2 cat2 sq2 sl2 imin2 imax2 smin2 smax2 len2 slen2 u82 hL2 op2 hop2 call2 hcall2 code2 hcode2 q2 hq2
  cbv
  refine hcall2 _ _ _ _ _ (CallEv.frzR (CallEv.shown [] [4, 5] hli rfl (.cons (psT (by decide) (by decide) rfl rfl _ hX) (.cons (.p _) (.cons (.p _) (.cons (.p _) .nil)))) trivial ?_))
  rintro _ _ ⟨e, us, z, he, hus, hz, rfl, rfl⟩
  refine ⟨flat_l1, flat_l2 hus, 7, _, _, _, rfl, (by rw [hB]; exact Nat.le_refl _), fun g hg => ?_⟩
  have hgz : g 0 z = prP W := by rw [hg, List.drop_zero, hz, List.take_length, hus]
  obtain rfl : e = 0 := he
  have hlen : len (g 0 z) = Int.ofNat N := by rw [hL.len, hgz, prP_length, hN]; rfl
  cbv
  refine hq2 _ ?_
  cbv
  refine vcIf.no (by first | (simp [hA.not, hA.eq, hA.lt, hA.le, hA.cond, hA.beq, hA.orb, hL.len, hL.slen, hL.sq]; done) | (simp [hA.not, hA.eq, hA.lt, hA.le, hA.cond, hA.beq, hA.orb, hL.len, hL.slen, hL.sq]; omega)) ?_
  cbv
  rw [hlen]
  refine ⟨false, ?_⟩
  cbv
  refine hcall _ _ _ _ _ (CallEv.lend [8] hn1 rfl (.cons (.own 0 8 0 rfl) (.cons (.p _) .nil)) (wrL0 rfl) ?_)
  rintro _ _ ⟨n0, e0, ys0, ⟨w1, w2, w3, w4⟩, rfl, rfl⟩
  obtain ⟨rfl, w5⟩ := w3 hok1
  replace w2 : n0 ≤ 18 := w2
  rw [List.nil_append] at w5
  cbv
  rw [hlen]
  refine hcode _ _ _ (CodeEv.loop eOk fOk (ι := Nat × Nat × List PV) (fun s => [(0, .own 6 0), (1, .p (.int .i64 v)), (8, .own 8 0), (48, .p (.sl (g 0 z))), (49, .p (.int .i64 (Int.ofNat N))), (50, .p (.int .i64 (Int.ofNat s.1)))])
    (fun s => shO n su ro af d xs m false rs a f l zs k ys lo hi ++ [.dead, .st 121 [.vw 9 1 0 s.2.1 none, .p (.int .i64 0)], wrA s.2.2]) (fun s => s.1 ≤ N ∧ s.2.2.length = s.2.1 ∧ s.2.1 ≤ 18 + 131092 * s.1 ∧ s.2.2 = bP (encs [v, Int.ofNat N] ++ (W.take s.1).flatMap fun p => encts [p.key, p.val])) (fun s => N - s.1) (0, n0, ys0) ?_ ?_)
  · exact ⟨⟨rfl, rfl, rfl, rfl, rfl, rfl, trivial⟩, rfl, Nat.zero_le _, w1, w2, by simp [w5]⟩
  rintro ⟨i, m1, us1⟩ ⟨h1, h2, h3, h5⟩ rd hrd
  simp only at h1 h2 h3 h5
  intro add1 sub1 mul1 quo1 rem1 band1 bor1 bxor1 bclr1 shl1 shr1 ieq1 ilt1 ile1 seq1 slt1 beq1 bnot1 orb1 bcond1 iwrap1 iof1 ssz1 hA1 cat1 sq1 sl1 imin1 imax1 smin1 smax1 len1 slen1 u81 hL1 op1 hop1 call1 hcall1 code1 hcode1
  have hadd1 : i < N → add1 .i64 (Int.ofNat i) 1 = Int.ofNat (i + 1) := fun _ => by rw [hA1.add, IntWalk.i64_in _ (by simp only [Int.ofNat_eq_natCast]; omega)]; rfl
  cbv
  by_cases hi : i < N
  · obtain ⟨⟨ky, vl⟩, hp⟩ := get_of_lt (show i < W.length by omega)
    have hzz : (g 0 z)[i]? = some (.agg [.str ky, .str vl]) := by rw [hgz]; exact prP_get hp
    have hck2 := hWs _ (List.mem_of_getElem? hp)
    simp only at hck2
    have htk : W.take (i + 1) = W.take i ++ [⟨ky, vl⟩] := by rw [List.take_add_one, hp]; rfl
    have htt : ∀ s ∈ [ky, vl], s.length ≤ 65536 := fun s hs => by
      simp only [List.mem_cons, List.not_mem_nil, or_false] at hs
      rcases hs with rfl | rfl <;> omega
    have htx := wrTexts_spec [ky, vl] [.str ky, .str vl] rfl (fun s hs => by have := htt s hs; omega) m1 0 us1 h2 (by simp only [List.length_cons, List.length_nil]; omega)
    have hce : bP (encs [v, Int.ofNat N] ++ (W.take (i + 1)).flatMap fun p => encts [p.key, p.val]) = us1 ++ bP (encts [ky, vl]) := by
      rw [htk, h5, List.flatMap_append, ← List.append_assoc, bP_append (encs _ ++ _)]; simp
    refine vcIf.yes (by first | (simp [hA1.not, hA1.eq, hA1.lt, hA1.le, hA1.cond, hA1.beq, hA1.orb, hL1.len, hL1.slen, hL1.sq, hi]; done) | (simp only [hi]; simp [hA1.not, hA1.eq, hA1.lt, hA1.le, hA1.cond, hA1.beq, hA1.orb, hL1.len, hL1.slen, hL1.sq, hi]; done) | (simp [hA1.not, hA1.eq, hA1.lt, hA1.le, hA1.cond, hA1.beq, hA1.orb, hL1.len, hL1.slen, hL1.sq, hi]; omega) | (simp only [hi]; simp [hA1.not, hA1.eq, hA1.lt, hA1.le, hA1.cond, hA1.beq, hA1.orb, hL1.len, hL1.slen, hL1.sq, hi]; omega)) ?_
    cbv
    refine ⟨i, _, rfl, hzz, rfl, ?_⟩
    cbv
    refine ⟨false, ?_⟩
    cbv
    refine hcall1 _ _ _ _ _ (CallEv.lend [8, 9] htx rfl (.cons (.own 0 8 0 rfl) (.cons (.p _) .nil)) (wrL rfl rfl rfl rfl) ?_)
    rintro _ _ ⟨n2, e2, ys2, ⟨u1, u2, u3, u4⟩, rfl, rfl⟩
    obtain ⟨rfl, u5⟩ := u3 htt
    replace u2 : n2 ≤ m1 + 131092 := u2
    cbv
    refine hrd _ ⟨(i + 1, n2, ys2), _, ?_, ⟨hi, u1, stepB h3 u2, by simp only; rw [u5, hce]⟩, rfl, ⟨rfl, rfl, rfl, rfl, rfl, ?_, trivial⟩, rfl, rfl, rfl, ?_⟩
    · simp only; omega
    · show some (V.p (.int .i64 _)) = _
      rw [hadd1 hi]
    · rw [hB]; exact Nat.le_of_ble_eq_true rfl
  · rw [List.take_of_length_le (by omega)] at h5
    have hus : us1 = bP S := by rw [h5, hS, svB, hN]
    have hby := wrBytes_spec m1 0 us1
    refine vcIf.no (by first | (simp [hA1.not, hA1.eq, hA1.lt, hA1.le, hA1.cond, hA1.beq, hA1.orb, hL1.len, hL1.slen, hL1.sq, hi]; done) | (simp only [hi]; simp [hA1.not, hA1.eq, hA1.lt, hA1.le, hA1.cond, hA1.beq, hA1.orb, hL1.len, hL1.slen, hL1.sq, hi]; done) | (simp [hA1.not, hA1.eq, hA1.lt, hA1.le, hA1.cond, hA1.beq, hA1.orb, hL1.len, hL1.slen, hL1.sq, hi]; omega) | (simp only [hi]; simp [hA1.not, hA1.eq, hA1.lt, hA1.le, hA1.cond, hA1.beq, hA1.orb, hL1.len, hL1.slen, hL1.sq, hi]; omega)) ?_
    cbv
    refine hcall _ _ _ _ _ (CallEv.frzR (CallEv.lend [8, 9] hby rfl (.cons (.own 0 8 0 rfl) .nil) (wrL rfl rfl rfl rfl) ?_))
    rintro _ _ ⟨⟨_, rfl⟩ | ⟨he, _⟩, rfl⟩
    rotate_left
    · exact absurd rfl he
    refine ⟨9, _, _, _, rfl, (by rw [hB]; exact Nat.le_of_ble_eq_true rfl), fun g2 hg2 => ?_⟩
    have hg2z : g2 0 m1 = bP S := by rw [hg2, List.drop_zero, ← h2, List.take_length, hus]
    rw [← hg2z] at hrs
    cbv
    refine ⟨false, ?_⟩
    cbv
    refine hcall _ _ _ _ _ (CallEv.lend [0, 1, 2, 3] hrs rfl (.cons (.own 2 2 0 rfl) (.cons (.p _) .nil)) (bkL rfl rfl rfl rfl rfl rfl rfl) ?_)
    rintro _ _ ⟨e3, n', su', ro', af', d', xs', m', dn', rs', he3, hb', rfl, rfl⟩
    obtain rfl : e3 = 0 := by rw [he3, hres]; rfl
    cbv
    refine vcIf.no (by first | (simp [hA.not, hA.eq, hA.lt, hA.le, hA.cond, hA.beq, hA.orb, hL.len, hL.slen, hL.sq]; done) | (simp [hA.not, hA.eq, hA.lt, hA.le, hA.cond, hA.beq, hA.orb, hL.len, hL.slen, hL.sq]; omega)) ?_
    cbv
    refine hcall _ _ _ _ _ (CallEv.lend [4, 5] hfo rfl (.cons (.own 0 4 0 rfl) (.cons (.p _) .nil)) (psL rfl rfl rfl rfl) ?_)
    rintro _ _ ⟨e4, he4, rfl, ⟨_, rfl⟩ | ⟨_, _, us4, ws4, m4, _, _, _, rfl⟩⟩
    · obtain rfl : e4 = 0 := he4
      cbv
      exact hret _ (RetEv.ret eOk rfl rfl)
    · obtain rfl : e4 = 0 := he4
      cbv
      exact hret _ (RetEv.ret eOk rfl rfl)
end Go.Proofs.Ytnigonhkfpnodaa
end
section
namespace Go.Proofs.Ytnigonhkfpnodaa
open Go Go.Lx
open Go.Sx (vcIf)

abbrev aw1 : List Chg := [⟨1, [98], [49]⟩, ⟨1, [122], []⟩]
theorem aw_tk : tkE ⟨[97], [109]⟩ 0 ⟨0, 9, 0, aw1⟩ = 0 := by decide
theorem aw_cut : cutR ⟨[97], [109]⟩ aw1 = [⟨1, [98], [49]⟩] := by rfl
theorem aw_li : liP 0 9 [] [⟨9, [⟨1, [98], [49]⟩]⟩] 9 (mt ⟨[], [122, 122]⟩ ⟨[97], [109]⟩) 9 = [⟨[98], [49]⟩] := by rfl
theorem aw_sv : liP 0 9 [] [⟨9, [⟨1, [98], [49]⟩]⟩] 9 ⟨[97], [109]⟩ 65536 = [⟨[98], [49]⟩] := by kernel_rfl
theorem aw_rs : (bkReset ⟨⟨[], 0, 10000, -1, false⟩, [], false⟩ [svB 9 [⟨[98], [49]⟩]]).1 = 0 := by
  have h : (svB 9 [⟨[98], [49]⟩]).length = 6 := by kernel_rfl
  obtain ⟨S, hS⟩ : ∃ S, S = svB 9 [⟨[98], [49]⟩] := ⟨_, rfl⟩
  rw [← hS] at h ⊢
  have h2 : (rbytes [S]).length ≤ 65546 * 1 := rbytes_len [S] (by simp; omega)
  have h3 : (rbytes [S]).length = 11 := by
    rw [rbytes_one, enct, List.length_append, cseal_length, h]
    kernel_rfl
  unfold bkReset layE
  rw [if_neg (by simp; omega)]
  simp only [bkFin, tpRep, wr, h3]
  rfl
theorem awake18_spec : FnL Try.prog 22 [] [] fun z own => z = .p (.bool true) ∧ own = [] := by
  refine FnL.flat (R := fun z own => z = .p (.bool true)) ?_ (fun v own' h => ⟨_, _, h, .refl _, rfl, rfl⟩)
  have hnew := tapeNew_spec 10000 (by decide) (by decide)
  have hopn := shOpen0_spec [97] [109] (by decide) (by decide) (by decide) 10000 (by decide)
  have htk := fun (n : Nat) (su ro af : Int) (d : Bool) (xs : List PV) (m : Nat) (dn : Bool) (rs : List PV) => shTake_spec (n := n) (su := su) (ro := ro) (af := af) (d := d) (xs := xs) (m := m) (dn := dn) (rs := rs) 0 0 0 [] 0 [] rfl (by decide) [97] [109] (by decide) (by decide) ⟨0, 9, 0, aw1⟩ ⟨by decide, (fun c hc => by simp only [List.mem_cons, List.not_mem_nil, or_false] at hc; rcases hc with rfl | rfl <;> exact ⟨by decide, by decide, by decide, by decide⟩), by decide⟩ (by decide) (by rw [aw_cut]; decide) [.agg [.int .i64 1, .str [98], .str [49]], .agg [.int .i64 1, .str [122], .str []]] rfl
  rw [aw_tk, aw_cut] at htk
  have hw1 : Srt ([] : List Pr) := srt_nil
  have hls := fun (n : Nat) (su ro af : Int) (d : Bool) (xs : List PV) (m : Nat) (dn : Bool) (rs : List PV) (ys : List PV) (hys : ys = layP [⟨9, [⟨1, [98], [49]⟩]⟩]) => shList_spec (n := n) (su := su) (ro := ro) (af := af) (d := d) (xs := xs) (m := m) (dn := dn) (rs := rs) 0 0 9 [] hw1 [⟨9, [⟨1, [98], [49]⟩]⟩] 1 (by decide) (by decide) (by decide) (by decide) [] rfl 1 ys hys rfl [97] [109] [] [122, 122] 9 9
  rw [aw_li] at hls
  have hsv := fun (n : Nat) (su ro af : Int) (d : Bool) (xs : List PV) (m : Nat) (rs : List PV) (hb : IsBk ⟨⟨[], 0, 10000, -1, false⟩, [], false⟩ n su ro af d xs m false rs) (ys : List PV) (hys : ys = layP [⟨9, [⟨1, [98], [49]⟩]⟩]) => shSave_spec hb 0 0 9 9 [] hw1 [⟨9, [⟨1, [98], [49]⟩]⟩] 1 (by decide) (by decide) (by decide) (by decide) [] rfl 1 ys hys rfl [97] [109] _ aw_sv (by decide) (by decide) (by decide) (by decide) (by decide) (by decide) (by rw [show (svB 9 [⟨[98], [49]⟩]).length = 6 by kernel_rfl]; decide) aw_rs
  refine fn_of_vc eOk fOk fo22 Try.func22 rfl rfl rfl fun B hB => ?_
  intro add sub mul quo rem band bor bxor bclr shl shr ieq ilt ile seq slt beq bnot orb bcond iwrap iof ssz hA cat sq sl imin imax smin smax len slen u8 hL op hop call hcall code hcode ret hret
  cbv
  refine hcall _ _ _ _ _ (CallEv.same hnew rfl ?_)
  rintro _ _ (⟨h, rfl, rfl⟩ | ⟨h, rfl, rfl⟩)
  · omega
  cbv
  refine hcall _ _ _ _ _ (CallEv.lend [0, 1] hopn rfl (.cons (.own 0 0 0 rfl) (.cons (.p _) .nil)) (tpL rfl rfl rfl rfl) ?_)
  rintro _ _ ⟨n, su, ro, af, d, xs, m, dn, rs, hb, rfl, rfl⟩
  have htk := htk n su ro af d xs m dn rs
  obtain rfl : dn = false := hb.2.2.1
  have hsv := hsv n su ro af d xs m rs hb
  have hls := hls n su ro af d xs m false rs
  cbv
  repeat (first | (refine vcIf.yes ?_ ?_; (focus (simp [hA.not, hA.eq, hA.lt, hA.le, hA.cond, hA.beq, hA.orb, hL.len, hL.slen, hL.sq]; done)); cbv) | (refine vcIf.no ?_ ?_; (focus (simp [hA.not, hA.eq, hA.lt, hA.le, hA.cond, hA.beq, hA.orb, hL.len, hL.slen, hL.sq]; done)); cbv) | fail)
  refine ⟨false, ?_⟩
  cbv
  refine hcall _ _ _ _ _ (CallEv.lend [0, 1, 2, 3, 4, 5, 6] htk rfl (.cons (.own 6 6 0 rfl) (.cons (.p _) .nil)) (shL rfl rfl rfl rfl rfl rfl rfl rfl rfl rfl rfl rfl rfl) ?_)
  rintro _ _ ⟨e, he, rfl, ⟨hx, _⟩ | ⟨_, _, ws, k', hk', hws, rfl⟩⟩
  · rcases hx with h | h
    · exact absurd he h
    · exact absurd h (by decide)
  obtain rfl : e = 0 := he
  obtain rfl : 1 = k' := hk'.symm
  replace hws : ws = layP [⟨9, [⟨1, [98], [49]⟩]⟩] := hws
  have hls := hls ws hws
  have hsv := hsv ws hws
  clear htk
  cbv
  refine hcall _ _ _ _ _ (CallEv.frzR (CallEv.lend [0, 1, 2, 3, 4, 5, 6] hls rfl (.cons (.own 6 6 0 rfl) (.cons (.p _) (.cons (.p _) (.cons (.p _) .nil)))) (shL rfl rfl rfl rfl rfl rfl rfl rfl rfl rfl rfl rfl rfl) ?_))
  rintro _ _ ⟨e, us, z, he, hus, hz, rfl, rfl⟩
  refine ⟨7, _, _, _, rfl, (by rw [hB]; exact Nat.zero_le _), fun g hg => ?_⟩
  have hgz : g 0 z = [.agg [.str [98], .str [49]]] := by rw [hg, List.drop_zero, hz, List.take_length, hus]; rfl
  obtain rfl : e = 0 := he
  have hlen : len (g 0 z) = 1 := by rw [hL.len, hgz]; rfl
  have h00 : (g 0 z)[0]? = some (.agg [.str [98], .str [49]]) := by rw [hgz]; rfl
  cbv
  repeat (first | (refine vcIf.yes ?_ ?_; (focus (simp [hA.not, hA.eq, hA.lt, hA.le, hA.cond, hA.beq, hA.orb, hL.len, hL.slen, hL.sq]; done)); cbv) | (refine vcIf.no ?_ ?_; (focus (simp [hA.not, hA.eq, hA.lt, hA.le, hA.cond, hA.beq, hA.orb, hL.len, hL.slen, hL.sq]; done)); cbv) | fail)
  refine vcIf.yes (by first | (simp [hA.not, hA.eq, hA.lt, hA.le, hA.cond, hA.beq, hA.orb, hL.len, hL.slen, hL.sq, hlen]; done) | (simp only [hlen]; simp [hA.not, hA.eq, hA.lt, hA.le, hA.cond, hA.beq, hA.orb, hL.len, hL.slen, hL.sq, hlen]; done) | (simp [hA.not, hA.eq, hA.lt, hA.le, hA.cond, hA.beq, hA.orb, hL.len, hL.slen, hL.sq, hlen]; omega) | (simp only [hlen]; simp [hA.not, hA.eq, hA.lt, hA.le, hA.cond, hA.beq, hA.orb, hL.len, hL.slen, hL.sq, hlen]; omega)) ?_
  cbv
  refine ⟨0, _, rfl, h00, rfl, ?_⟩
  have hsq : sq [49] [49] = true := by rw [hL.sq]; exact decide_eq_true rfl
  cbv
  refine vcIf.yes (by first | (simp [hA.not, hA.eq, hA.lt, hA.le, hA.cond, hA.beq, hA.orb, hL.len, hL.slen, hL.sq, hsq]; done) | (simp only [hsq]; simp [hA.not, hA.eq, hA.lt, hA.le, hA.cond, hA.beq, hA.orb, hL.len, hL.slen, hL.sq, hsq]; done) | (simp [hA.not, hA.eq, hA.lt, hA.le, hA.cond, hA.beq, hA.orb, hL.len, hL.slen, hL.sq, hsq]; omega) | (simp only [hsq]; simp [hA.not, hA.eq, hA.lt, hA.le, hA.cond, hA.beq, hA.orb, hL.len, hL.slen, hL.sq, hsq]; omega)) ?_
  cbv
  refine hcall _ _ _ _ _ (CallEv.lend [0, 1, 2, 3, 4, 5, 6] hsv rfl (.cons (.own 6 6 0 rfl) (.cons (.p _) .nil)) (shL rfl rfl rfl rfl rfl rfl rfl rfl rfl rfl rfl rfl rfl) ?_)
  rintro _ _ rfl
  cbv
  exact hret _ (RetEv.ret eOk rfl (by simp [hA.not, hA.eq, hA.lt, hA.le, hA.cond, hA.beq, hA.orb, hL.len, hL.slen, hL.sq, oneOf, hlen, hsq]))

theorem shelfNone_spec (n : Int) (key lo hi : List UInt8) (a b c : Int) (zs : List PV) : FnL Try.prog 8 [.p (.int .i64 n), .p (.str key), .p (.agg [.str lo, .str hi]), .p (.agg [.int .i64 a, .int .i64 b, .int .i64 c, .sl zs])] [] fun z own => z = .p (.bool true) ∧ own = [] := by
  refine FnL.flat (R := fun z own => z = .p (.bool true)) ?_ (fun v own' h => ⟨_, _, h, .refl _, rfl, rfl⟩)
  refine fn_of_vc eOk fOk fo8 Try.func8 rfl rfl rfl fun B hB => ?_
  intro add sub mul quo rem band bor bxor bclr shl shr ieq ilt ile seq slt beq bnot orb bcond iwrap iof ssz hA cat sq sl imin imax smin smax len slen u8 hL op hop call hcall code hcode ret hret
  cbv
  refine hcall _ _ _ _ _ (CallEv.same (shGet_nil key n) rfl ?_)
  rintro _ _ ⟨rfl, rfl⟩
  cbv
  refine hcall _ _ _ _ _ (CallEv.same (shList_nil lo hi n n) rfl ?_)
  rintro _ _ ⟨rfl, rfl⟩
  cbv
  refine hcall _ _ _ _ _ (CallEv.same (shOpen_nil lo hi) rfl ?_)
  rintro _ _ ⟨rfl, rfl⟩
  cbv
  refine hcall _ _ _ _ _ (CallEv.same shEnds_nil rfl ?_)
  rintro _ _ ⟨rfl, rfl⟩
  cbv
  refine hcall _ _ _ _ _ (CallEv.pure awake18_spec .nil ?_)
  rintro _ _ ⟨rfl, rfl⟩
  cbv
  repeat (first | (refine vcIf.yes ?_ ?_; (focus (simp [hA.not, hA.eq, hA.lt, hA.le, hA.cond, hA.beq, hA.orb, hL.len, hL.slen, hL.sq]; done)); cbv) | (refine vcIf.no ?_ ?_; (focus (simp [hA.not, hA.eq, hA.lt, hA.le, hA.cond, hA.beq, hA.orb, hL.len, hL.slen, hL.sq]; done)); cbv) | fail)
  refine hcall _ _ _ _ _ (CallEv.same (shTake_nil a b c zs) rfl ?_)
  rintro _ _ ⟨rfl, rfl⟩
  cbv
  repeat (first | (refine vcIf.yes ?_ ?_; (focus (simp [hA.not, hA.eq, hA.lt, hA.le, hA.cond, hA.beq, hA.orb, hL.len, hL.slen, hL.sq]; done)); cbv) | (refine vcIf.no ?_ ?_; (focus (simp [hA.not, hA.eq, hA.lt, hA.le, hA.cond, hA.beq, hA.orb, hL.len, hL.slen, hL.sq]; done)); cbv) | fail)
  refine hcall _ _ _ _ _ (CallEv.same (shBack_nil n) rfl ?_)
  rintro _ _ ⟨rfl, rfl⟩
  cbv
  repeat (first | (refine vcIf.yes ?_ ?_; (focus (simp [hA.not, hA.eq, hA.lt, hA.le, hA.cond, hA.beq, hA.orb, hL.len, hL.slen, hL.sq]; done)); cbv) | (refine vcIf.no ?_ ?_; (focus (simp [hA.not, hA.eq, hA.lt, hA.le, hA.cond, hA.beq, hA.orb, hL.len, hL.slen, hL.sq]; done)); cbv) | fail)
  refine hcall _ _ _ _ _ (CallEv.same (shSave_nil n) rfl ?_)
  rintro _ _ ⟨rfl, rfl⟩
  cbv
  repeat (first | (refine vcIf.yes ?_ ?_; (focus (simp [hA.not, hA.eq, hA.lt, hA.le, hA.cond, hA.beq, hA.orb, hL.len, hL.slen, hL.sq]; done)); cbv) | (refine vcIf.no ?_ ?_; (focus (simp [hA.not, hA.eq, hA.lt, hA.le, hA.cond, hA.beq, hA.orb, hL.len, hL.slen, hL.sq]; done)); cbv) | fail)
  exact hret _ (RetEv.ret eOk rfl (by simp [hA.not, hA.eq, hA.lt, hA.le, hA.cond, hA.beq, hA.orb, hL.len, hL.slen, hL.sq, oneOf]))
end Go.Proofs.Ytnigonhkfpnodaa
end
