/- PastPlays, the walk. Conditions: on sizes. -/
import Derived.Test.YtdeolllpbflemaaLRpm
set_option maxRecDepth 100000
set_option maxHeartbeats 32000000
set_option linter.unusedSimpArgs false
set_option linter.unusedVariables false
namespace Go.Proofs.Ytdeolllpbflemaa
open Go Go.Lx
open Go.Sx (vcIf)

theorem fg_stay {f l v : Int} (h : fgE l v ≠ 0 ∨ v ≤ f) : (if ¬ l < v ∧ f < v then v else f) = f := by
  unfold fgE at h
  rw [if_neg]
  rintro ⟨h1, h2⟩
  rw [if_neg h1] at h
  rcases h with h | h
  · exact h rfl
  · omega
theorem fg_go {f l v : Int} (h : 0 = fgE l v) (hv : ¬ v ≤ f) : (if ¬ l < v ∧ f < v then v else f) = v := by
  unfold fgE at h
  by_cases h1 : l < v
  · rw [if_pos h1] at h; cases h
  · rw [if_pos ⟨h1, by omega⟩]
theorem pastPlays_spec (v : Int) (ps : List Pr) (hps : ps.length * 32 ≤ 67108864) (hpf : ∀ p ∈ ps, p.fit) (A : List Ac) (hAn : A.length * 96 ≤ 100663296) (hAc : ∀ x ∈ A, x.ch.length * 40 ≤ 100663296) (hAf : ∀ x ∈ A, x.fit) :
    FnL Try.prog 9 [.p (.int .i64 v), .p (.sl (prP ps)), .p (.sl (acP A))] [] fun r own => r = .p (.bool true) ∧ own = [] := by
  refine FnL.flat (R := fun r own => r = .p (.bool true)) ?_ (by rintro _ _ rfl; exact ⟨_, _, rfl, .refl _, rfl, rfl⟩)
  obtain ⟨zs, hzs⟩ : ∃ zs, zs = prP ps := ⟨_, rfl⟩
  obtain ⟨AA, hAA⟩ : ∃ AA, AA = acP A := ⟨_, rfl⟩
  rw [← hzs, ← hAA]
  obtain ⟨N, hN⟩ : ∃ N, N = A.length := ⟨_, rfl⟩
  have hAl : AA.length = N := by rw [hAA, acP_length, hN]
  have hFr := from_spec v ps (by omega) hpf zs hzs
  have hSn := rsndP_spec ps (by omega) hpf zs hzs
  have hRf := rpFrom_spec v zs
  refine fn_of_vc eOk fOk fo9 Try.func9 rfl rfl rfl fun B hB => ?_
  intro add sub mul quo rem band bor bxor bclr shl shr ieq ilt ile seq slt beq bnot orb bcond iwrap iof ssz hA cat sq sl imin imax smin smax len slen u8 hL op hop call hcall code hcode ret hret
  cbv
  refine hcall _ _ _ _ _ (CallEv.same hFr rfl ?_)
  rintro _ _ (⟨h0, rfl, rfl⟩ | ⟨h0, hsn, rfl, rfl⟩ | ⟨h0, hsn, us, hus, rfl, rfl⟩)
  · cbv
    repeat (first | (refine vcIf.yes ?_ ?_; (focus (simp [hA.not, hA.eq, hA.lt, hA.le, hA.cond, hA.beq, hA.orb, hL.len, hL.slen, hL.sq, h0]; done)); cbv) | (refine vcIf.no ?_ ?_; (focus (simp [hA.not, hA.eq, hA.lt, hA.le, hA.cond, hA.beq, hA.orb, hL.len, hL.slen, hL.sq, h0]; done)); cbv) | fail)
    refine hcall _ _ _ _ _ (CallEv.pure awakeP_spec .nil ?_)
    rintro _ _ ⟨rfl, rfl⟩
    cbv
    repeat (first | (refine vcIf.yes ?_ ?_; (focus (simp [hA.not, hA.eq, hA.lt, hA.le, hA.cond, hA.beq, hA.orb, hL.len, hL.slen, hL.sq, h0]; done)); cbv) | (refine vcIf.no ?_ ?_; (focus (simp [hA.not, hA.eq, hA.lt, hA.le, hA.cond, hA.beq, hA.orb, hL.len, hL.slen, hL.sq, h0]; done)); cbv) | fail)
    exact hret _ (RetEv.ret eOk rfl (by simp [hA.not, hA.eq, hA.lt, hA.le, hA.cond, hA.beq, hA.orb, hL.len, hL.slen, hL.sq, oneOf]))
  · rw [hsn] at hSn
    cbv
    repeat (first | (refine vcIf.yes ?_ ?_; (focus (simp [hA.not, hA.eq, hA.lt, hA.le, hA.cond, hA.beq, hA.orb, hL.len, hL.slen, hL.sq, h0]; done)); cbv) | (refine vcIf.no ?_ ?_; (focus (simp [hA.not, hA.eq, hA.lt, hA.le, hA.cond, hA.beq, hA.orb, hL.len, hL.slen, hL.sq, h0]; done)); cbv) | fail)
    refine hcall _ _ _ _ _ (CallEv.same hSn rfl ?_)
    rintro _ _ ⟨rfl, rfl⟩
    cbv
    repeat (first | (refine vcIf.yes ?_ ?_; (focus (simp [hA.not, hA.eq, hA.lt, hA.le, hA.cond, hA.beq, hA.orb, hL.len, hL.slen, hL.sq, h0]; done)); cbv) | (refine vcIf.no ?_ ?_; (focus (simp [hA.not, hA.eq, hA.lt, hA.le, hA.cond, hA.beq, hA.orb, hL.len, hL.slen, hL.sq, h0]; done)); cbv) | fail)
    refine hcall _ _ _ _ _ (CallEv.pure awakeP_spec .nil ?_)
    rintro _ _ ⟨rfl, rfl⟩
    cbv
    repeat (first | (refine vcIf.yes ?_ ?_; (focus (simp [hA.not, hA.eq, hA.lt, hA.le, hA.cond, hA.beq, hA.orb, hL.len, hL.slen, hL.sq, h0]; done)); cbv) | (refine vcIf.no ?_ ?_; (focus (simp [hA.not, hA.eq, hA.lt, hA.le, hA.cond, hA.beq, hA.orb, hL.len, hL.slen, hL.sq, h0]; done)); cbv) | fail)
    exact hret _ (RetEv.ret eOk rfl (by simp [hA.not, hA.eq, hA.lt, hA.le, hA.cond, hA.beq, hA.orb, hL.len, hL.slen, hL.sq, oneOf]))
  rw [hsn] at hSn
  subst hus
  have hsr := sndP_srt hsn
  cbv
  repeat (first | (refine vcIf.yes ?_ ?_; (focus (simp [hA.not, hA.eq, hA.lt, hA.le, hA.cond, hA.beq, hA.orb, hL.len, hL.slen, hL.sq, h0]; done)); cbv) | (refine vcIf.no ?_ ?_; (focus (simp [hA.not, hA.eq, hA.lt, hA.le, hA.cond, hA.beq, hA.orb, hL.len, hL.slen, hL.sq, h0]; done)); cbv) | fail)
  refine hcall _ _ _ _ _ (CallEv.pure hSn (.cons (.p _) .nil) ?_)
  rintro _ _ ⟨rfl, rfl⟩
  cbv
  repeat (first | (refine vcIf.yes ?_ ?_; (focus (simp [hA.not, hA.eq, hA.lt, hA.le, hA.cond, hA.beq, hA.orb, hL.len, hL.slen, hL.sq, h0]; done)); cbv) | (refine vcIf.no ?_ ?_; (focus (simp [hA.not, hA.eq, hA.lt, hA.le, hA.cond, hA.beq, hA.orb, hL.len, hL.slen, hL.sq, h0]; done)); cbv) | fail)
  refine hcall _ _ _ _ _ (CallEv.pure awakeP_spec .nil ?_)
  rintro _ _ ⟨rfl, rfl⟩
  cbv
  repeat (first | (refine vcIf.yes ?_ ?_; (focus (simp [hA.not, hA.eq, hA.lt, hA.le, hA.cond, hA.beq, hA.orb, hL.len, hL.slen, hL.sq, h0]; done)); cbv) | (refine vcIf.no ?_ ?_; (focus (simp [hA.not, hA.eq, hA.lt, hA.le, hA.cond, hA.beq, hA.orb, hL.len, hL.slen, hL.sq, h0]; done)); cbv) | fail)
  refine hcall _ _ _ _ _ (CallEv.pure hRf (.cons (.p _) (.cons (.p _) .nil)) ?_)
  rintro _ _ ⟨rfl, rfl⟩
  have hpB : ∀ m, B.own0.length ≤ m := fun m => by rw [hB]; exact Nat.zero_le _
  obtain ⟨P, hP⟩ : ∃ P, P = ps.length := ⟨_, rfl⟩
  obtain ⟨M, hMk, hMb, hM48⟩ := Py.lim (P := P) (by omega)
  cbv
  refine hcode _ _ _ (CodeEv.loop eOk fOk (ι := Py) (fun s => [(2, .p (.sl AA)), (7, .own 0 0), (10, .own 2 0), (11, .p (.int .i64 (Int.ofNat s.i)))])
    (fun s => [.st 64 [.p (.int .i64 s.a), .p (.sl s.us), .vw 1 2 0 s.n none, .p (.int .i64 s.f), .p (.int .i64 s.l)], psA s.ws, .st 60 [.vw 3 2 0 s.m none, .p (.int .i64 s.f), .p (.int .i64 s.l)], rpA s.rs])
    (fun s => s.Ok P M) (fun s => N - s.i) ⟨0, 0, 1, v, v, v, us, [], [.agg [.int .i64 v, .sl us]], ps, [], [(v, ps)]⟩ ?_ ?_)
  · exact ⟨(by repeat (first | exact trivial | refine And.intro rfl ?_)), rfl, ⟨Nat.zero_le _, hzs, rfl, by rw [hzs]; rfl, rfl, rfl, SameP.from' v hsr, by simp [hP], Nat.le_refl _, Nat.le_refl _, fun x hx => by simp at hx⟩⟩
  rintro ⟨i, n, m, a, f, l, us, ws, rs, ps, ls, R⟩ hok rd hrd
  have hokk := hok
  obtain ⟨i60, hus, hws, hrs, hn, hm, hsame, hsz, hni, hmi, hlay⟩ := hok
  dsimp only at i60 hus hws hrs hn hm hsame hsz hni hmi hlay
  by_cases hiN : i < N
  · by_cases hi6 : i < 60
    · refine Exists.elim (get_of_lt (show i < A.length by omega)) fun x hx => ?_
      have hzx := acP_get hx
      rw [← hAA] at hzx
      have hxc := hAc x (List.mem_of_getElem? hx)
      have hxf := hAf x (List.mem_of_getElem? hx)
      obtain ⟨wh, ver, most, key, lo, hi, ch⟩ := x
      dsimp only at hzx hxc
      obtain ⟨hmost, hcf⟩ := hxf
      dsimp only at hmost hcf
      refine Exists.elim (show ∃ cc, cc = cP ch from ⟨_, rfl⟩) fun cc hcc => ?_
      rw [← hcc] at hzx
      have hchl : ch.length ≤ M := hMk _ hxc
      have hstay := hokk.stay hi6
      have hwl : ws.length = n := by rw [hws, layP_length, hn]
      have hyd : ws = (ws.drop 0).take n := by rw [List.drop_zero, ← hwl, List.take_length]
      have hrl : rs.length = m := by rw [hrs, rlP_length, hm]
      have hyr : rs = (rs.drop 0).take m := by rw [List.drop_zero, ← hrl, List.take_length]
      have hszz := hMb _ hokk.bnd
      have hlM : ∀ x ∈ ls, x.ch.length ≤ M := fun x hx => (hlay x hx).1
      have hlc : ∀ x ∈ ls, chks x.ch = 0 := fun x hx => (hlay x hx).2.1
      have hsS := hsame.2.1
      have hat := hsame.2.2.2
      have hwle : ∀ w, (whole ps ls w).length ≤ ps.length + ls.length * M := fun w =>
        Nat.le_trans (lays_take_len hsS hlM (upto_le w ls)) (Nat.add_le_add_left (Nat.mul_le_mul_right _ (upto_le w ls)) _)
      have hWS : ∀ w, f ≤ w → Srt (atR R w) := fun w hw => by rw [hat w hw]; exact lays_srt _ hsS
      have hWl : ∀ w, f ≤ w → (atR R w).length ≤ ps.length + ls.length * M := fun w hw => by rw [hat w hw]; exact hwle w
      have hEn := ends_spec
      have hmu : N - (i + 1) < N - i := by omega
      have hbn : (n + 1) * 32 ≤ 140737488355328 := Nat.le_trans (Nat.mul_le_mul_right 32 (Nat.succ_le_succ (Nat.le_trans hni i60))) (by decide)
      have hbm : (m + 1) * 32 ≤ 140737488355328 := Nat.le_trans (Nat.mul_le_mul_right 32 (Nat.succ_le_succ (Nat.le_trans hmi (Nat.succ_le_succ i60)))) (by decide)
      have hc40 : ch.length * 40 ≤ 140737488355328 := Nat.le_trans hxc (by decide)
      have hc48 : ch.length < 281474976710656 := Nat.lt_of_le_of_lt (Nat.le_trans (Nat.le_mul_of_pos_right _ (by decide)) hxc) (by decide)
      have hAp := add_spec a f l ver ch hc40 us ws n hwl.symm hbn cc hcc
      have hAr := rpAdd_spec R f l ver ch hcf hc48 (hWS l hsame.1) (Nat.le_trans (Nat.mul_le_mul_right 32 (Nat.succ_le_succ (Nat.add_le_add (hWl l hsame.1) hchl))) hszz) rs hrs m hm hbm cc hcc
      by_cases hw0 : wh = 0
      · intro add1 sub1 mul1 quo1 rem1 band1 bor1 bxor1 bclr1 shl1 shr1 ieq1 ilt1 ile1 seq1 slt1 beq1 bnot1 orb1 bcond1 iwrap1 iof1 ssz1 hA1 cat1 sq1 sl1 imin1 imax1 smin1 smax1 len1 slen1 u81 hL1 op1 hop1 call1 hcall1 code1 hcode1
        have hinc : add1 .i64 (Int.ofNat i) 1 = Int.ofNat (i + 1) := by rw [hA1.add]; exact i64_nat (by simp) (by omega)
        cbv
        repeat (first | (refine vcIf.yes ?_ ?_; (focus (simp [hA1.not, hA1.eq, hA1.lt, hA1.le, hA1.cond, hA1.beq, hA1.orb, hL1.len, hL1.slen, hL1.sq, hAl, hiN, hi6]; done)); cbv) | (refine vcIf.no ?_ ?_; (focus (simp [hA1.not, hA1.eq, hA1.lt, hA1.le, hA1.cond, hA1.beq, hA1.orb, hL1.len, hL1.slen, hL1.sq, hAl, hiN, hi6]; done)); cbv) | fail)
        refine vcIf.yes (by first | (simp [hA1.not, hA1.eq, hA1.lt, hA1.le, hA1.cond, hA1.beq, hA1.orb, hL1.len, hL1.slen, hL1.sq, hi6]; done) | (simp only [hi6]; simp [hA1.not, hA1.eq, hA1.lt, hA1.le, hA1.cond, hA1.beq, hA1.orb, hL1.len, hL1.slen, hL1.sq, hi6]; done) | (simp [hA1.not, hA1.eq, hA1.lt, hA1.le, hA1.cond, hA1.beq, hA1.orb, hL1.len, hL1.slen, hL1.sq, hi6]; omega) | (simp only [hi6]; simp [hA1.not, hA1.eq, hA1.lt, hA1.le, hA1.cond, hA1.beq, hA1.orb, hL1.len, hL1.slen, hL1.sq, hi6]; omega)) ?_
        cbv
        refine ⟨i, _, rfl, hzx, rfl, ?_⟩
        cbv
        repeat (first | (refine vcIf.yes ?_ ?_; (focus (simp [hA1.not, hA1.eq, hA1.lt, hA1.le, hA1.cond, hA1.beq, hA1.orb, hL1.len, hL1.slen, hL1.sq, hw0]; done)); cbv) | (refine vcIf.no ?_ ?_; (focus (simp [hA1.not, hA1.eq, hA1.lt, hA1.le, hA1.cond, hA1.beq, hA1.orb, hL1.len, hL1.slen, hL1.sq, hw0]; done)); cbv) | fail)
        refine hcall1 _ _ _ _ _ (CallEv.lend [0, 1] hAp rfl (.cons (.own 0 0 0 rfl) (.cons (.p _) (.cons (.p _) .nil))) (psL rfl rfl rfl rfl) ?_)
        rintro _ _ ⟨e, he, rfl, ⟨hne, rfl⟩ | ⟨rfl, ws2, n2, hn2, hws2, rfl⟩⟩
        · cbv
          refine hcall1 _ _ _ _ _ (CallEv.lend [2, 3] hAr rfl (.cons (.own 0 2 0 rfl) (.cons (.p _) (.cons (.p _) .nil))) (rpL rfl rfl rfl rfl) ?_)
          rintro _ _ ⟨e2, he2, rfl, ⟨hne2, rfl⟩ | ⟨h2, _⟩⟩
          · obtain rfl : e2 = e := he2.trans he.symm
            cbv
            refine hcall1 _ _ _ _ _ (CallEv.shown [] [0, 1] (hEn a f l us ((ws.drop 0).take n)) rfl (.cons (psT (by decide) (by decide) rfl rfl _ rfl) .nil) trivial ?_)
            rintro _ _ ⟨rfl, rfl⟩
            refine ⟨.p _ (.tup _ fun c hc => by simp only [List.mem_cons, List.not_mem_nil, or_false] at hc; rcases hc with rfl | rfl <;> constructor), (by intro r hr; cases hr), ?_⟩
            cbv
            repeat (first | (refine vcIf.yes ?_ ?_; (focus (simp [hA1.not, hA1.eq, hA1.lt, hA1.le, hA1.cond, hA1.beq, hA1.orb, hL1.len, hL1.slen, hL1.sq]; done)); cbv) | (refine vcIf.no ?_ ?_; (focus (simp [hA1.not, hA1.eq, hA1.lt, hA1.le, hA1.cond, hA1.beq, hA1.orb, hL1.len, hL1.slen, hL1.sq]; done)); cbv) | fail)
            refine hrd _ ⟨⟨i + 1, n, m, a, f, l, us, ws, rs, ps, ls, R⟩, _, hmu, hstay, rfl, ⟨rfl, rfl, rfl, ?_, trivial⟩, rfl, rfl, rfl, hpB _⟩
            show some (Go.Lx.V.p (.int .i64 _)) = _
            rw [hinc]
          · exact absurd (he.trans (he2.symm.trans h2)) hne
        · cbv
          refine hcall1 _ _ _ _ _ (CallEv.lend [2, 3] hAr rfl (.cons (.own 0 2 0 rfl) (.cons (.p _) (.cons (.p _) .nil))) (rpL rfl rfl rfl rfl) ?_)
          rintro _ _ ⟨e2, he2, rfl, ⟨hne2, _⟩ | ⟨rfl, rs2, m2, hm2, hrs2, rfl⟩⟩
          · exact absurd (he2.trans he.symm) hne2
          · have hnew := hokk.add hi6 he hchl hcf hn2 hm2 (hws2.trans (by rw [hcc])) hrs2
            cbv
            refine hcall1 _ _ _ _ _ (CallEv.shown [] [0, 1] (hEn a f ver us ((ws2.drop 0).take n2)) rfl (.cons (psT (by decide) (by decide) rfl rfl _ rfl) .nil) trivial ?_)
            rintro _ _ ⟨rfl, rfl⟩
            refine ⟨.p _ (.tup _ fun c hc => by simp only [List.mem_cons, List.not_mem_nil, or_false] at hc; rcases hc with rfl | rfl <;> constructor), (by intro r hr; cases hr), ?_⟩
            cbv
            repeat (first | (refine vcIf.yes ?_ ?_; (focus (simp [hA1.not, hA1.eq, hA1.lt, hA1.le, hA1.cond, hA1.beq, hA1.orb, hL1.len, hL1.slen, hL1.sq]; done)); cbv) | (refine vcIf.no ?_ ?_; (focus (simp [hA1.not, hA1.eq, hA1.lt, hA1.le, hA1.cond, hA1.beq, hA1.orb, hL1.len, hL1.slen, hL1.sq]; done)); cbv) | fail)
            refine hrd _ ⟨⟨i + 1, n2, m2, a, f, ver, us, ws2, rs2, ps, _, _⟩, _, hmu, hnew, rfl, ⟨rfl, rfl, rfl, ?_, trivial⟩, rfl, rfl, rfl, hpB _⟩
            show some (Go.Lx.V.p (.int .i64 _)) = _
            rw [hinc]
      · by_cases hw1 : wh = 1
        · intro add1 sub1 mul1 quo1 rem1 band1 bor1 bxor1 bclr1 shl1 shr1 ieq1 ilt1 ile1 seq1 slt1 beq1 bnot1 orb1 bcond1 iwrap1 iof1 ssz1 hA1 cat1 sq1 sl1 imin1 imax1 smin1 smax1 len1 slen1 u81 hL1 op1 hop1 call1 hcall1 code1 hcode1
          have hinc : add1 .i64 (Int.ofNat i) 1 = Int.ofNat (i + 1) := by rw [hA1.add]; exact i64_nat (by simp) (by omega)
          cbv
          repeat (first | (refine vcIf.yes ?_ ?_; (focus (simp [hA1.not, hA1.eq, hA1.lt, hA1.le, hA1.cond, hA1.beq, hA1.orb, hL1.len, hL1.slen, hL1.sq, hAl, hiN, hi6]; done)); cbv) | (refine vcIf.no ?_ ?_; (focus (simp [hA1.not, hA1.eq, hA1.lt, hA1.le, hA1.cond, hA1.beq, hA1.orb, hL1.len, hL1.slen, hL1.sq, hAl, hiN, hi6]; done)); cbv) | fail)
          refine vcIf.yes (by first | (simp [hA1.not, hA1.eq, hA1.lt, hA1.le, hA1.cond, hA1.beq, hA1.orb, hL1.len, hL1.slen, hL1.sq, hi6]; done) | (simp only [hi6]; simp [hA1.not, hA1.eq, hA1.lt, hA1.le, hA1.cond, hA1.beq, hA1.orb, hL1.len, hL1.slen, hL1.sq, hi6]; done) | (simp [hA1.not, hA1.eq, hA1.lt, hA1.le, hA1.cond, hA1.beq, hA1.orb, hL1.len, hL1.slen, hL1.sq, hi6]; omega) | (simp only [hi6]; simp [hA1.not, hA1.eq, hA1.lt, hA1.le, hA1.cond, hA1.beq, hA1.orb, hL1.len, hL1.slen, hL1.sq, hi6]; omega)) ?_
          cbv
          refine ⟨i, _, rfl, hzx, rfl, ?_⟩
          cbv
          repeat (first | (refine vcIf.yes ?_ ?_; (focus (simp [hA1.not, hA1.eq, hA1.lt, hA1.le, hA1.cond, hA1.beq, hA1.orb, hL1.len, hL1.slen, hL1.sq, hw0, hw1]; done)); cbv) | (refine vcIf.no ?_ ?_; (focus (simp [hA1.not, hA1.eq, hA1.lt, hA1.le, hA1.cond, hA1.beq, hA1.orb, hL1.len, hL1.slen, hL1.sq, hw0, hw1]; done)); cbv) | fail)
          refine hcall1 _ _ _ _ _ (CallEv.lend [0, 1] hAp rfl (.cons (.own 0 0 0 rfl) (.cons (.p _) (.cons (.p _) .nil))) (psL rfl rfl rfl rfl) ?_)
          rintro _ _ ⟨e, he, rfl, ⟨hne, rfl⟩ | ⟨rfl, ws2, n2, hn2, hws2, rfl⟩⟩
          · cbv
            refine hcall1 _ _ _ _ _ (CallEv.lend [2, 3] hAr rfl (.cons (.own 0 2 0 rfl) (.cons (.p _) (.cons (.p _) .nil))) (rpL rfl rfl rfl rfl) ?_)
            rintro _ _ ⟨e2, he2, rfl, ⟨hne2, rfl⟩ | ⟨h2, _⟩⟩
            · obtain rfl : e2 = e := he2.trans he.symm
              cbv
              refine hcall1 _ _ _ _ _ (CallEv.shown [] [0, 1] (hEn a f l us ((ws.drop 0).take n)) rfl (.cons (psT (by decide) (by decide) rfl rfl _ rfl) .nil) trivial ?_)
              rintro _ _ ⟨rfl, rfl⟩
              refine ⟨.p _ (.tup _ fun c hc => by simp only [List.mem_cons, List.not_mem_nil, or_false] at hc; rcases hc with rfl | rfl <;> constructor), (by intro r hr; cases hr), ?_⟩
              cbv
              repeat (first | (refine vcIf.yes ?_ ?_; (focus (simp [hA1.not, hA1.eq, hA1.lt, hA1.le, hA1.cond, hA1.beq, hA1.orb, hL1.len, hL1.slen, hL1.sq]; done)); cbv) | (refine vcIf.no ?_ ?_; (focus (simp [hA1.not, hA1.eq, hA1.lt, hA1.le, hA1.cond, hA1.beq, hA1.orb, hL1.len, hL1.slen, hL1.sq]; done)); cbv) | fail)
              refine hrd _ ⟨⟨i + 1, n, m, a, f, l, us, ws, rs, ps, ls, R⟩, _, hmu, hstay, rfl, ⟨rfl, rfl, rfl, ?_, trivial⟩, rfl, rfl, rfl, hpB _⟩
              show some (Go.Lx.V.p (.int .i64 _)) = _
              rw [hinc]
            · exact absurd (he.trans (he2.symm.trans h2)) hne
          · cbv
            refine hcall1 _ _ _ _ _ (CallEv.lend [2, 3] hAr rfl (.cons (.own 0 2 0 rfl) (.cons (.p _) (.cons (.p _) .nil))) (rpL rfl rfl rfl rfl) ?_)
            rintro _ _ ⟨e2, he2, rfl, ⟨hne2, _⟩ | ⟨rfl, rs2, m2, hm2, hrs2, rfl⟩⟩
            · exact absurd (he2.trans he.symm) hne2
            · have hnew := hokk.add hi6 he hchl hcf hn2 hm2 (hws2.trans (by rw [hcc])) hrs2
              cbv
              refine hcall1 _ _ _ _ _ (CallEv.shown [] [0, 1] (hEn a f ver us ((ws2.drop 0).take n2)) rfl (.cons (psT (by decide) (by decide) rfl rfl _ rfl) .nil) trivial ?_)
              rintro _ _ ⟨rfl, rfl⟩
              refine ⟨.p _ (.tup _ fun c hc => by simp only [List.mem_cons, List.not_mem_nil, or_false] at hc; rcases hc with rfl | rfl <;> constructor), (by intro r hr; cases hr), ?_⟩
              cbv
              repeat (first | (refine vcIf.yes ?_ ?_; (focus (simp [hA1.not, hA1.eq, hA1.lt, hA1.le, hA1.cond, hA1.beq, hA1.orb, hL1.len, hL1.slen, hL1.sq]; done)); cbv) | (refine vcIf.no ?_ ?_; (focus (simp [hA1.not, hA1.eq, hA1.lt, hA1.le, hA1.cond, hA1.beq, hA1.orb, hL1.len, hL1.slen, hL1.sq]; done)); cbv) | fail)
              refine hrd _ ⟨⟨i + 1, n2, m2, a, f, ver, us, ws2, rs2, ps, _, _⟩, _, hmu, hnew, rfl, ⟨rfl, rfl, rfl, ?_, trivial⟩, rfl, rfl, rfl, hpB _⟩
              show some (Go.Lx.V.p (.int .i64 _)) = _
              rw [hinc]
        · by_cases hw2 : wh = 2
          · intro add1 sub1 mul1 quo1 rem1 band1 bor1 bxor1 bclr1 shl1 shr1 ieq1 ilt1 ile1 seq1 slt1 beq1 bnot1 orb1 bcond1 iwrap1 iof1 ssz1 hA1 cat1 sq1 sl1 imin1 imax1 smin1 smax1 len1 slen1 u81 hL1 op1 hop1 call1 hcall1 code1 hcode1
            have hinc : add1 .i64 (Int.ofNat i) 1 = Int.ofNat (i + 1) := by rw [hA1.add]; exact i64_nat (by simp) (by omega)
            cbv
            repeat (first | (refine vcIf.yes ?_ ?_; (focus (simp [hA1.not, hA1.eq, hA1.lt, hA1.le, hA1.cond, hA1.beq, hA1.orb, hL1.len, hL1.slen, hL1.sq, hAl, hiN, hi6]; done)); cbv) | (refine vcIf.no ?_ ?_; (focus (simp [hA1.not, hA1.eq, hA1.lt, hA1.le, hA1.cond, hA1.beq, hA1.orb, hL1.len, hL1.slen, hL1.sq, hAl, hiN, hi6]; done)); cbv) | fail)
            refine vcIf.yes (by first | (simp [hA1.not, hA1.eq, hA1.lt, hA1.le, hA1.cond, hA1.beq, hA1.orb, hL1.len, hL1.slen, hL1.sq, hi6]; done) | (simp only [hi6]; simp [hA1.not, hA1.eq, hA1.lt, hA1.le, hA1.cond, hA1.beq, hA1.orb, hL1.len, hL1.slen, hL1.sq, hi6]; done) | (simp [hA1.not, hA1.eq, hA1.lt, hA1.le, hA1.cond, hA1.beq, hA1.orb, hL1.len, hL1.slen, hL1.sq, hi6]; omega) | (simp only [hi6]; simp [hA1.not, hA1.eq, hA1.lt, hA1.le, hA1.cond, hA1.beq, hA1.orb, hL1.len, hL1.slen, hL1.sq, hi6]; omega)) ?_
            cbv
            refine ⟨i, _, rfl, hzx, rfl, ?_⟩
            cbv
            repeat (first | (refine vcIf.yes ?_ ?_; (focus (simp [hA1.not, hA1.eq, hA1.lt, hA1.le, hA1.cond, hA1.beq, hA1.orb, hL1.len, hL1.slen, hL1.sq, hw0, hw1, hw2]; done)); cbv) | (refine vcIf.no ?_ ?_; (focus (simp [hA1.not, hA1.eq, hA1.lt, hA1.le, hA1.cond, hA1.beq, hA1.orb, hL1.len, hL1.slen, hL1.sq, hw0, hw1, hw2]; done)); cbv) | fail)
            refine hcall1 _ _ _ _ _ (CallEv.lend [0, 1] hAp rfl (.cons (.own 0 0 0 rfl) (.cons (.p _) (.cons (.p _) .nil))) (psL rfl rfl rfl rfl) ?_)
            rintro _ _ ⟨e, he, rfl, ⟨hne, rfl⟩ | ⟨rfl, ws2, n2, hn2, hws2, rfl⟩⟩
            · cbv
              refine hcall1 _ _ _ _ _ (CallEv.lend [2, 3] hAr rfl (.cons (.own 0 2 0 rfl) (.cons (.p _) (.cons (.p _) .nil))) (rpL rfl rfl rfl rfl) ?_)
              rintro _ _ ⟨e2, he2, rfl, ⟨hne2, rfl⟩ | ⟨h2, _⟩⟩
              · obtain rfl : e2 = e := he2.trans he.symm
                cbv
                refine hcall1 _ _ _ _ _ (CallEv.shown [] [0, 1] (hEn a f l us ((ws.drop 0).take n)) rfl (.cons (psT (by decide) (by decide) rfl rfl _ rfl) .nil) trivial ?_)
                rintro _ _ ⟨rfl, rfl⟩
                refine ⟨.p _ (.tup _ fun c hc => by simp only [List.mem_cons, List.not_mem_nil, or_false] at hc; rcases hc with rfl | rfl <;> constructor), (by intro r hr; cases hr), ?_⟩
                cbv
                repeat (first | (refine vcIf.yes ?_ ?_; (focus (simp [hA1.not, hA1.eq, hA1.lt, hA1.le, hA1.cond, hA1.beq, hA1.orb, hL1.len, hL1.slen, hL1.sq]; done)); cbv) | (refine vcIf.no ?_ ?_; (focus (simp [hA1.not, hA1.eq, hA1.lt, hA1.le, hA1.cond, hA1.beq, hA1.orb, hL1.len, hL1.slen, hL1.sq]; done)); cbv) | fail)
                refine hrd _ ⟨⟨i + 1, n, m, a, f, l, us, ws, rs, ps, ls, R⟩, _, hmu, hstay, rfl, ⟨rfl, rfl, rfl, ?_, trivial⟩, rfl, rfl, rfl, hpB _⟩
                show some (Go.Lx.V.p (.int .i64 _)) = _
                rw [hinc]
              · exact absurd (he.trans (he2.symm.trans h2)) hne
            · cbv
              refine hcall1 _ _ _ _ _ (CallEv.lend [2, 3] hAr rfl (.cons (.own 0 2 0 rfl) (.cons (.p _) (.cons (.p _) .nil))) (rpL rfl rfl rfl rfl) ?_)
              rintro _ _ ⟨e2, he2, rfl, ⟨hne2, _⟩ | ⟨rfl, rs2, m2, hm2, hrs2, rfl⟩⟩
              · exact absurd (he2.trans he.symm) hne2
              · have hnew := hokk.add hi6 he hchl hcf hn2 hm2 (hws2.trans (by rw [hcc])) hrs2
                cbv
                refine hcall1 _ _ _ _ _ (CallEv.shown [] [0, 1] (hEn a f ver us ((ws2.drop 0).take n2)) rfl (.cons (psT (by decide) (by decide) rfl rfl _ rfl) .nil) trivial ?_)
                rintro _ _ ⟨rfl, rfl⟩
                refine ⟨.p _ (.tup _ fun c hc => by simp only [List.mem_cons, List.not_mem_nil, or_false] at hc; rcases hc with rfl | rfl <;> constructor), (by intro r hr; cases hr), ?_⟩
                cbv
                repeat (first | (refine vcIf.yes ?_ ?_; (focus (simp [hA1.not, hA1.eq, hA1.lt, hA1.le, hA1.cond, hA1.beq, hA1.orb, hL1.len, hL1.slen, hL1.sq]; done)); cbv) | (refine vcIf.no ?_ ?_; (focus (simp [hA1.not, hA1.eq, hA1.lt, hA1.le, hA1.cond, hA1.beq, hA1.orb, hL1.len, hL1.slen, hL1.sq]; done)); cbv) | fail)
                refine hrd _ ⟨⟨i + 1, n2, m2, a, f, ver, us, ws2, rs2, ps, _, _⟩, _, hmu, hnew, rfl, ⟨rfl, rfl, rfl, ?_, trivial⟩, rfl, rfl, rfl, hpB _⟩
                show some (Go.Lx.V.p (.int .i64 _)) = _
                rw [hinc]
          · clear hAp hAr
            have hl60 : ls.length ≤ 60 := by rw [← hn]; exact Nat.le_trans hni i60
            have hl48 : ls.length < 281474976710656 := Nat.lt_of_le_of_lt hl60 (by decide)
            have hR48 : R.length < 281474976710656 := by rw [← hm]; exact Nat.lt_of_le_of_lt (Nat.le_trans hmi (Nat.succ_le_succ i60)) (by decide)
            have hsz2 : (ps.length + ls.length * M + 1) * 32 ≤ 140737488355328 := Nat.le_trans (Nat.mul_le_mul_right 32 (Nat.succ_le_succ (Nat.le_add_right _ _))) hszz
            have hp48 : ps.length < 281474976710656 := Nat.lt_of_le_of_lt (Nat.le_trans (Nat.le_trans (Nat.le_add_right _ (ls.length * M)) (Nat.le_succ _)) (Nat.le_trans (Nat.le_mul_of_pos_right _ (by decide)) hsz2)) (by decide)
            by_cases hw3 : wh = 3
            · have hGp := getW_spec a f l ver ps hsS hp48 ls (fun b hb => ⟨Nat.lt_of_le_of_lt (hlM b hb) hM48, (hlay b hb).2.2⟩) hl48 key us hus ws hws
              have hGr := rpGet_spec R hR48 f l ver rs hrs key (fun hk => Nat.lt_of_le_of_lt (hWl ver (knw_0 hk).1) (Nat.lt_of_le_of_lt (Nat.le_trans (Nat.le_succ _) (Nat.le_trans (Nat.le_mul_of_pos_right _ (by decide)) hsz2)) (by decide)))
              have hgO : (if knw f l ver = 0 then lk (atR R ver) key else none) = gtO f l ps ls ver key := by
                unfold gtO
                by_cases hk : knw f l ver = 0
                · rw [if_pos hk, if_pos hk, hat ver (knw_0 hk).1]
                · rw [if_neg hk, if_neg hk]
              rw [hgO] at hGr
              clear hgO
              intro add1 sub1 mul1 quo1 rem1 band1 bor1 bxor1 bclr1 shl1 shr1 ieq1 ilt1 ile1 seq1 slt1 beq1 bnot1 orb1 bcond1 iwrap1 iof1 ssz1 hA1 cat1 sq1 sl1 imin1 imax1 smin1 smax1 len1 slen1 u81 hL1 op1 hop1 call1 hcall1 code1 hcode1
              have hinc : add1 .i64 (Int.ofNat i) 1 = Int.ofNat (i + 1) := by rw [hA1.add]; exact i64_nat (by simp) (by omega)
              cbv
              repeat (first | (refine vcIf.yes ?_ ?_; (focus (simp [hA1.not, hA1.eq, hA1.lt, hA1.le, hA1.cond, hA1.beq, hA1.orb, hL1.len, hL1.slen, hL1.sq, hAl, hiN, hi6]; done)); cbv) | (refine vcIf.no ?_ ?_; (focus (simp [hA1.not, hA1.eq, hA1.lt, hA1.le, hA1.cond, hA1.beq, hA1.orb, hL1.len, hL1.slen, hL1.sq, hAl, hiN, hi6]; done)); cbv) | fail)
              refine vcIf.yes (by first | (simp [hA1.not, hA1.eq, hA1.lt, hA1.le, hA1.cond, hA1.beq, hA1.orb, hL1.len, hL1.slen, hL1.sq, hi6]; done) | (simp only [hi6]; simp [hA1.not, hA1.eq, hA1.lt, hA1.le, hA1.cond, hA1.beq, hA1.orb, hL1.len, hL1.slen, hL1.sq, hi6]; done) | (simp [hA1.not, hA1.eq, hA1.lt, hA1.le, hA1.cond, hA1.beq, hA1.orb, hL1.len, hL1.slen, hL1.sq, hi6]; omega) | (simp only [hi6]; simp [hA1.not, hA1.eq, hA1.lt, hA1.le, hA1.cond, hA1.beq, hA1.orb, hL1.len, hL1.slen, hL1.sq, hi6]; omega)) ?_
              cbv
              refine ⟨i, _, rfl, hzx, rfl, ?_⟩
              cbv
              repeat (first | (refine vcIf.yes ?_ ?_; (focus (simp [hA1.not, hA1.eq, hA1.lt, hA1.le, hA1.cond, hA1.beq, hA1.orb, hL1.len, hL1.slen, hL1.sq, hw0, hw1, hw2, hw3]; done)); cbv) | (refine vcIf.no ?_ ?_; (focus (simp [hA1.not, hA1.eq, hA1.lt, hA1.le, hA1.cond, hA1.beq, hA1.orb, hL1.len, hL1.slen, hL1.sq, hw0, hw1, hw2, hw3]; done)); cbv) | fail)
              refine hcall1 _ _ _ _ _ (CallEv.shown [] [0, 1] hGp rfl (.cons (psT (by decide) (by decide) rfl rfl _ hyd) (.cons (.p _) (.cons (.p _) .nil))) trivial ?_)
              rintro _ _ ⟨s1, b1, e, he, hs1, hb1, rfl, rfl⟩
              refine ⟨flat_get _ _ _, (by intro r hr; cases hr), ?_⟩
              cbv
              refine hcall1 _ _ _ _ _ (CallEv.shown [] [2, 3] hGr rfl (.cons (rpT (by decide) (by decide) rfl rfl _ hyr) (.cons (.p _) (.cons (.p _) .nil))) trivial ?_)
              rintro _ _ ⟨s2, b2, e2, he2, hs2, hb2, rfl, rfl⟩
              refine ⟨flat_get _ _ _, (by intro r hr; cases hr), ?_⟩
              obtain rfl : e2 = e := he2.trans he.symm
              obtain rfl : s2 = s1 := hs2.trans hs1.symm
              obtain rfl : b2 = b1 := hb2.trans hb1.symm
              have hsq : sq1 s2 s2 = true := by rw [hL1.sq]; exact decide_eq_true rfl
              have hbq : beq1 b2 b2 = true := by rw [hA1.beq]; cases b2 <;> rfl
              cbv
              repeat (first | (refine vcIf.yes ?_ ?_; (focus (simp [hA1.not, hA1.eq, hA1.lt, hA1.le, hA1.cond, hA1.beq, hA1.orb, hL1.len, hL1.slen, hL1.sq, hsq, hbq]; done)); cbv) | (refine vcIf.no ?_ ?_; (focus (simp [hA1.not, hA1.eq, hA1.lt, hA1.le, hA1.cond, hA1.beq, hA1.orb, hL1.len, hL1.slen, hL1.sq, hsq, hbq]; done)); cbv) | fail)
              refine hcall1 _ _ _ _ _ (CallEv.shown [] [0, 1] (hEn a f l us ((ws.drop 0).take n)) rfl (.cons (psT (by decide) (by decide) rfl rfl _ rfl) .nil) trivial ?_)
              rintro _ _ ⟨rfl, rfl⟩
              refine ⟨.p _ (.tup _ fun c hc => by simp only [List.mem_cons, List.not_mem_nil, or_false] at hc; rcases hc with rfl | rfl <;> constructor), (by intro r hr; cases hr), ?_⟩
              cbv
              repeat (first | (refine vcIf.yes ?_ ?_; (focus (simp [hA1.not, hA1.eq, hA1.lt, hA1.le, hA1.cond, hA1.beq, hA1.orb, hL1.len, hL1.slen, hL1.sq]; done)); cbv) | (refine vcIf.no ?_ ?_; (focus (simp [hA1.not, hA1.eq, hA1.lt, hA1.le, hA1.cond, hA1.beq, hA1.orb, hL1.len, hL1.slen, hL1.sq]; done)); cbv) | fail)
              refine hrd _ ⟨⟨i + 1, n, m, a, f, l, us, ws, rs, ps, ls, R⟩, _, hmu, hstay, rfl, ⟨rfl, rfl, rfl, ?_, trivial⟩, rfl, rfl, rfl, hpB _⟩
              show some (Go.Lx.V.p (.int .i64 _)) = _
              rw [hinc]
            · by_cases hw4 : wh = 4
              · refine Exists.elim (show ∃ X, X = liP f l ps ls ver ⟨lo, hi⟩ most from ⟨_, rfl⟩) fun X hX => ?_
                have hLp := listW_spec a f l ver lo hi most ps hsS ls M hlM hlc hsz2 hl48 us hus ws hws
                have hLr := rpList_spec R hR48 f l ver most hmost lo hi rs hrs (fun hk => Nat.le_trans (Nat.le_trans (Nat.le_of_eq (Nat.succ_mul _ 32).symm) (Nat.mul_le_mul_right 32 (Nat.succ_le_succ (hWl ver (knw_0 hk).1)))) hsz2)
                have hgO : (if knw f l ver = 0 ∧ ¬ most < 0 then lst (atR R ver) ⟨lo, hi⟩ most else []) = X := by
                  rw [hX]; unfold liP
                  by_cases hk : knw f l ver = 0 ∧ ¬ most < 0
                  · rw [if_pos hk, if_pos hk, hat ver (knw_0 hk.1).1]
                  · rw [if_neg hk, if_neg hk]
                have hXn : X.length < 281474976710656 := by
                  rw [hX]; unfold liP
                  by_cases hk : knw f l ver = 0 ∧ ¬ most < 0
                  · rw [if_pos hk]
                    exact Nat.lt_of_le_of_lt (Nat.le_trans (Nat.le_trans (List.length_take_le' _ _) (List.length_filter_le _ _)) (hwle ver)) (Nat.lt_of_le_of_lt (Nat.le_trans (Nat.le_succ _) (Nat.le_trans (Nat.le_mul_of_pos_right _ (by decide)) hsz2)) (by decide))
                  · rw [if_neg hk]; decide
                rw [hgO] at hLr
                rw [← hX] at hLp
                clear hgO hX
                intro add1 sub1 mul1 quo1 rem1 band1 bor1 bxor1 bclr1 shl1 shr1 ieq1 ilt1 ile1 seq1 slt1 beq1 bnot1 orb1 bcond1 iwrap1 iof1 ssz1 hA1 cat1 sq1 sl1 imin1 imax1 smin1 smax1 len1 slen1 u81 hL1 op1 hop1 call1 hcall1 code1 hcode1
                have hinc : add1 .i64 (Int.ofNat i) 1 = Int.ofNat (i + 1) := by rw [hA1.add]; exact i64_nat (by simp) (by omega)
                cbv
                repeat (first | (refine vcIf.yes ?_ ?_; (focus (simp [hA1.not, hA1.eq, hA1.lt, hA1.le, hA1.cond, hA1.beq, hA1.orb, hL1.len, hL1.slen, hL1.sq, hAl, hiN, hi6]; done)); cbv) | (refine vcIf.no ?_ ?_; (focus (simp [hA1.not, hA1.eq, hA1.lt, hA1.le, hA1.cond, hA1.beq, hA1.orb, hL1.len, hL1.slen, hL1.sq, hAl, hiN, hi6]; done)); cbv) | fail)
                refine vcIf.yes (by first | (simp [hA1.not, hA1.eq, hA1.lt, hA1.le, hA1.cond, hA1.beq, hA1.orb, hL1.len, hL1.slen, hL1.sq, hi6]; done) | (simp only [hi6]; simp [hA1.not, hA1.eq, hA1.lt, hA1.le, hA1.cond, hA1.beq, hA1.orb, hL1.len, hL1.slen, hL1.sq, hi6]; done) | (simp [hA1.not, hA1.eq, hA1.lt, hA1.le, hA1.cond, hA1.beq, hA1.orb, hL1.len, hL1.slen, hL1.sq, hi6]; omega) | (simp only [hi6]; simp [hA1.not, hA1.eq, hA1.lt, hA1.le, hA1.cond, hA1.beq, hA1.orb, hL1.len, hL1.slen, hL1.sq, hi6]; omega)) ?_
                cbv
                refine ⟨i, _, rfl, hzx, rfl, ?_⟩
                cbv
                repeat (first | (refine vcIf.yes ?_ ?_; (focus (simp [hA1.not, hA1.eq, hA1.lt, hA1.le, hA1.cond, hA1.beq, hA1.orb, hL1.len, hL1.slen, hL1.sq, hw0, hw1, hw2, hw3, hw4]; done)); cbv) | (refine vcIf.no ?_ ?_; (focus (simp [hA1.not, hA1.eq, hA1.lt, hA1.le, hA1.cond, hA1.beq, hA1.orb, hL1.len, hL1.slen, hL1.sq, hw0, hw1, hw2, hw3, hw4]; done)); cbv) | fail)
                refine hcall1 _ _ _ _ _ (CallEv.frzR (CallEv.shown [] [0, 1] hLp rfl (.cons (psT (by decide) (by decide) rfl rfl _ hyd) (.cons (.p _) (.cons (.p _) (.cons (.p _) .nil)))) trivial ?_))
                rintro _ _ ⟨e, u1, k1, he, hu1, hk1, rfl, rfl⟩
                refine ⟨flat_l1, flat_l2 hu1, 5, _, _, _, rfl, hpB _, fun g1 hg1 => ?_⟩
                have hz1 : g1 0 k1 = prP X := by rw [hg1, List.drop_zero, hk1, List.take_length, hu1]
                cbv
                refine hcall1 _ _ _ _ _ (CallEv.frzR (CallEv.shown [] [2, 3] hLr rfl (.cons (rpT (by decide) (by decide) rfl rfl _ hyr) (.cons (.p _) (.cons (.p _) (.cons (.p _) .nil)))) trivial ?_))
                rintro _ _ ⟨e2, u2, k2, he2, hu2, hk2, rfl, rfl⟩
                refine ⟨flat_l1, flat_l2 hu2, 6, _, _, _, rfl, hpB _, fun g2 hg2 => ?_⟩
                have hz2 : g2 0 k2 = prP X := by rw [hg2, List.drop_zero, hk2, List.take_length, hu2]
                obtain rfl : e2 = e := he2.trans he.symm
                have hpr := rPairs_spec X X hXn hXn true ⟨fun _ => rfl, fun _ => rfl⟩ (g1 0 k1) (g2 0 k2) hz1 hz2
                cbv
                refine hcall1 _ _ _ _ _ (CallEv.same hpr rfl ?_)
                rintro _ _ ⟨rfl, rfl⟩
                cbv
                repeat (first | (refine vcIf.yes ?_ ?_; (focus (simp [hA1.not, hA1.eq, hA1.lt, hA1.le, hA1.cond, hA1.beq, hA1.orb, hL1.len, hL1.slen, hL1.sq]; done)); cbv) | (refine vcIf.no ?_ ?_; (focus (simp [hA1.not, hA1.eq, hA1.lt, hA1.le, hA1.cond, hA1.beq, hA1.orb, hL1.len, hL1.slen, hL1.sq]; done)); cbv) | fail)
                refine hcall1 _ _ _ _ _ (CallEv.shown [] [0, 1] (hEn a f l us ((ws.drop 0).take n)) rfl (.cons (psT (by decide) (by decide) rfl rfl _ rfl) .nil) trivial ?_)
                rintro _ _ ⟨rfl, rfl⟩
                refine ⟨.p _ (.tup _ fun c hc => by simp only [List.mem_cons, List.not_mem_nil, or_false] at hc; rcases hc with rfl | rfl <;> constructor), (by intro r hr; cases hr), ?_⟩
                cbv
                repeat (first | (refine vcIf.yes ?_ ?_; (focus (simp [hA1.not, hA1.eq, hA1.lt, hA1.le, hA1.cond, hA1.beq, hA1.orb, hL1.len, hL1.slen, hL1.sq]; done)); cbv) | (refine vcIf.no ?_ ?_; (focus (simp [hA1.not, hA1.eq, hA1.lt, hA1.le, hA1.cond, hA1.beq, hA1.orb, hL1.len, hL1.slen, hL1.sq]; done)); cbv) | fail)
                refine hrd _ ⟨⟨i + 1, n, m, a, f, l, us, ws, rs, ps, ls, R⟩, _, hmu, hstay, rfl, ⟨rfl, rfl, rfl, ?_, trivial⟩, rfl, rfl, rfl, hpB _⟩
                show some (Go.Lx.V.p (.int .i64 _)) = _
                rw [hinc]
              · by_cases hw5 : wh = 5
                · have hFp := forgetB_spec a f l ver ps hsS ls M hlM hlc hsz2 (Nat.le_trans (Nat.mul_le_mul_right 32 hl60) (by decide)) us hus ws hws n hn
                  have hFr' := rpForget_spec f l ver m rs
                  intro add1 sub1 mul1 quo1 rem1 band1 bor1 bxor1 bclr1 shl1 shr1 ieq1 ilt1 ile1 seq1 slt1 beq1 bnot1 orb1 bcond1 iwrap1 iof1 ssz1 hA1 cat1 sq1 sl1 imin1 imax1 smin1 smax1 len1 slen1 u81 hL1 op1 hop1 call1 hcall1 code1 hcode1
                  have hinc : add1 .i64 (Int.ofNat i) 1 = Int.ofNat (i + 1) := by rw [hA1.add]; exact i64_nat (by simp) (by omega)
                  cbv
                  repeat (first | (refine vcIf.yes ?_ ?_; (focus (simp [hA1.not, hA1.eq, hA1.lt, hA1.le, hA1.cond, hA1.beq, hA1.orb, hL1.len, hL1.slen, hL1.sq, hAl, hiN, hi6]; done)); cbv) | (refine vcIf.no ?_ ?_; (focus (simp [hA1.not, hA1.eq, hA1.lt, hA1.le, hA1.cond, hA1.beq, hA1.orb, hL1.len, hL1.slen, hL1.sq, hAl, hiN, hi6]; done)); cbv) | fail)
                  refine vcIf.yes (by first | (simp [hA1.not, hA1.eq, hA1.lt, hA1.le, hA1.cond, hA1.beq, hA1.orb, hL1.len, hL1.slen, hL1.sq, hi6]; done) | (simp only [hi6]; simp [hA1.not, hA1.eq, hA1.lt, hA1.le, hA1.cond, hA1.beq, hA1.orb, hL1.len, hL1.slen, hL1.sq, hi6]; done) | (simp [hA1.not, hA1.eq, hA1.lt, hA1.le, hA1.cond, hA1.beq, hA1.orb, hL1.len, hL1.slen, hL1.sq, hi6]; omega) | (simp only [hi6]; simp [hA1.not, hA1.eq, hA1.lt, hA1.le, hA1.cond, hA1.beq, hA1.orb, hL1.len, hL1.slen, hL1.sq, hi6]; omega)) ?_
                  cbv
                  refine ⟨i, _, rfl, hzx, rfl, ?_⟩
                  cbv
                  repeat (first | (refine vcIf.yes ?_ ?_; (focus (simp [hA1.not, hA1.eq, hA1.lt, hA1.le, hA1.cond, hA1.beq, hA1.orb, hL1.len, hL1.slen, hL1.sq, hw0, hw1, hw2, hw3, hw4, hw5]; done)); cbv) | (refine vcIf.no ?_ ?_; (focus (simp [hA1.not, hA1.eq, hA1.lt, hA1.le, hA1.cond, hA1.beq, hA1.orb, hL1.len, hL1.slen, hL1.sq, hw0, hw1, hw2, hw3, hw4, hw5]; done)); cbv) | fail)
                  refine hcall1 _ _ _ _ _ (CallEv.lend [0, 1] hFp rfl (.cons (.own 0 0 0 rfl) (.cons (.p _) .nil)) (psL rfl rfl rfl rfl) ?_)
                  rintro _ _ ⟨e, he, rfl, ⟨hne, rfl⟩ | ⟨rfl, hvf, us2, ws2, n2, hus2, hn2, hws2, rfl⟩⟩
                  · cbv
                    refine hcall1 _ _ _ _ _ (CallEv.lend [2, 3] hFr' rfl (.cons (.own 0 2 0 rfl) (.cons (.p _) .nil)) (rpL rfl rfl rfl rfl) ?_)
                    rintro _ _ ⟨e2, f2, he2, hf2, rfl, rfl⟩
                    obtain rfl : e2 = e := he2.trans he.symm
                    obtain rfl : f = f2 := (hf2.trans (fg_stay (hne.imp (fun h => by rw [← he]; exact h) id))).symm
                    cbv
                    refine hcall1 _ _ _ _ _ (CallEv.shown [] [0, 1] (hEn a f l us ((ws.drop 0).take n)) rfl (.cons (psT (by decide) (by decide) rfl rfl _ rfl) .nil) trivial ?_)
                    rintro _ _ ⟨rfl, rfl⟩
                    refine ⟨.p _ (.tup _ fun c hc => by simp only [List.mem_cons, List.not_mem_nil, or_false] at hc; rcases hc with rfl | rfl <;> constructor), (by intro r hr; cases hr), ?_⟩
                    cbv
                    repeat (first | (refine vcIf.yes ?_ ?_; (focus (simp [hA1.not, hA1.eq, hA1.lt, hA1.le, hA1.cond, hA1.beq, hA1.orb, hL1.len, hL1.slen, hL1.sq]; done)); cbv) | (refine vcIf.no ?_ ?_; (focus (simp [hA1.not, hA1.eq, hA1.lt, hA1.le, hA1.cond, hA1.beq, hA1.orb, hL1.len, hL1.slen, hL1.sq]; done)); cbv) | fail)
                    refine hrd _ ⟨⟨i + 1, n, m, a, f, l, us, ws, rs, ps, ls, R⟩, _, hmu, hstay, rfl, ⟨rfl, rfl, rfl, ?_, trivial⟩, rfl, rfl, rfl, hpB _⟩
                    show some (Go.Lx.V.p (.int .i64 _)) = _
                    rw [hinc]
                  · cbv
                    refine hcall1 _ _ _ _ _ (CallEv.lend [2, 3] hFr' rfl (.cons (.own 0 2 0 rfl) (.cons (.p _) .nil)) (rpL rfl rfl rfl rfl) ?_)
                    rintro _ _ ⟨e2, f2, he2, hf2, rfl, rfl⟩
                    obtain rfl : e2 = 0 := he2.trans he.symm
                    obtain rfl : ver = f2 := (hf2.trans (fg_go he hvf)).symm
                    have hnew := hokk.forget hi6 he hvf hus2 hn2 hws2
                    cbv
                    refine hcall1 _ _ _ _ _ (CallEv.shown [] [0, 1] (hEn ver ver l us2 ((ws2.drop 0).take n2)) rfl (.cons (psT (by decide) (by decide) rfl rfl _ rfl) .nil) trivial ?_)
                    rintro _ _ ⟨rfl, rfl⟩
                    refine ⟨.p _ (.tup _ fun c hc => by simp only [List.mem_cons, List.not_mem_nil, or_false] at hc; rcases hc with rfl | rfl <;> constructor), (by intro r hr; cases hr), ?_⟩
                    cbv
                    repeat (first | (refine vcIf.yes ?_ ?_; (focus (simp [hA1.not, hA1.eq, hA1.lt, hA1.le, hA1.cond, hA1.beq, hA1.orb, hL1.len, hL1.slen, hL1.sq]; done)); cbv) | (refine vcIf.no ?_ ?_; (focus (simp [hA1.not, hA1.eq, hA1.lt, hA1.le, hA1.cond, hA1.beq, hA1.orb, hL1.len, hL1.slen, hL1.sq]; done)); cbv) | fail)
                    refine hrd _ ⟨⟨i + 1, n2, m, ver, ver, l, us2, ws2, rs, _, _, R⟩, _, hmu, hnew, rfl, ⟨rfl, rfl, rfl, ?_, trivial⟩, rfl, rfl, rfl, hpB _⟩
                    show some (Go.Lx.V.p (.int .i64 _)) = _
                    rw [hinc]
                · have hBp := back_spec a f l ver ls hl48 us ws hws n hn
                  have hBr := rpBack_spec R f l ver rs hrs m hm hbm
                  intro add1 sub1 mul1 quo1 rem1 band1 bor1 bxor1 bclr1 shl1 shr1 ieq1 ilt1 ile1 seq1 slt1 beq1 bnot1 orb1 bcond1 iwrap1 iof1 ssz1 hA1 cat1 sq1 sl1 imin1 imax1 smin1 smax1 len1 slen1 u81 hL1 op1 hop1 call1 hcall1 code1 hcode1
                  have hinc : add1 .i64 (Int.ofNat i) 1 = Int.ofNat (i + 1) := by rw [hA1.add]; exact i64_nat (by simp) (by omega)
                  cbv
                  repeat (first | (refine vcIf.yes ?_ ?_; (focus (simp [hA1.not, hA1.eq, hA1.lt, hA1.le, hA1.cond, hA1.beq, hA1.orb, hL1.len, hL1.slen, hL1.sq, hAl, hiN, hi6]; done)); cbv) | (refine vcIf.no ?_ ?_; (focus (simp [hA1.not, hA1.eq, hA1.lt, hA1.le, hA1.cond, hA1.beq, hA1.orb, hL1.len, hL1.slen, hL1.sq, hAl, hiN, hi6]; done)); cbv) | fail)
                  refine vcIf.yes (by first | (simp [hA1.not, hA1.eq, hA1.lt, hA1.le, hA1.cond, hA1.beq, hA1.orb, hL1.len, hL1.slen, hL1.sq, hi6]; done) | (simp only [hi6]; simp [hA1.not, hA1.eq, hA1.lt, hA1.le, hA1.cond, hA1.beq, hA1.orb, hL1.len, hL1.slen, hL1.sq, hi6]; done) | (simp [hA1.not, hA1.eq, hA1.lt, hA1.le, hA1.cond, hA1.beq, hA1.orb, hL1.len, hL1.slen, hL1.sq, hi6]; omega) | (simp only [hi6]; simp [hA1.not, hA1.eq, hA1.lt, hA1.le, hA1.cond, hA1.beq, hA1.orb, hL1.len, hL1.slen, hL1.sq, hi6]; omega)) ?_
                  cbv
                  refine ⟨i, _, rfl, hzx, rfl, ?_⟩
                  cbv
                  repeat (first | (refine vcIf.yes ?_ ?_; (focus (simp [hA1.not, hA1.eq, hA1.lt, hA1.le, hA1.cond, hA1.beq, hA1.orb, hL1.len, hL1.slen, hL1.sq, hw0, hw1, hw2, hw3, hw4, hw5]; done)); cbv) | (refine vcIf.no ?_ ?_; (focus (simp [hA1.not, hA1.eq, hA1.lt, hA1.le, hA1.cond, hA1.beq, hA1.orb, hL1.len, hL1.slen, hL1.sq, hw0, hw1, hw2, hw3, hw4, hw5]; done)); cbv) | fail)
                  refine hcall1 _ _ _ _ _ (CallEv.lend [0, 1] hBp rfl (.cons (.own 0 0 0 rfl) (.cons (.p _) .nil)) (psL rfl rfl rfl rfl) ?_)
                  rintro _ _ ⟨e, he, rfl, ⟨hne, rfl⟩ | ⟨rfl, ws2, n2, hn2, hws2, rfl⟩⟩
                  · cbv
                    refine hcall1 _ _ _ _ _ (CallEv.lend [2, 3] hBr rfl (.cons (.own 0 2 0 rfl) (.cons (.p _) .nil)) (rpL rfl rfl rfl rfl) ?_)
                    rintro _ _ ⟨e2, he2, rfl, ⟨hne2, rfl⟩ | ⟨h2, _⟩⟩
                    · obtain rfl : e2 = e := he2.trans he.symm
                      cbv
                      refine hcall1 _ _ _ _ _ (CallEv.shown [] [0, 1] (hEn a f l us ((ws.drop 0).take n)) rfl (.cons (psT (by decide) (by decide) rfl rfl _ rfl) .nil) trivial ?_)
                      rintro _ _ ⟨rfl, rfl⟩
                      refine ⟨.p _ (.tup _ fun c hc => by simp only [List.mem_cons, List.not_mem_nil, or_false] at hc; rcases hc with rfl | rfl <;> constructor), (by intro r hr; cases hr), ?_⟩
                      cbv
                      repeat (first | (refine vcIf.yes ?_ ?_; (focus (simp [hA1.not, hA1.eq, hA1.lt, hA1.le, hA1.cond, hA1.beq, hA1.orb, hL1.len, hL1.slen, hL1.sq]; done)); cbv) | (refine vcIf.no ?_ ?_; (focus (simp [hA1.not, hA1.eq, hA1.lt, hA1.le, hA1.cond, hA1.beq, hA1.orb, hL1.len, hL1.slen, hL1.sq]; done)); cbv) | fail)
                      refine hrd _ ⟨⟨i + 1, n, m, a, f, l, us, ws, rs, ps, ls, R⟩, _, hmu, hstay, rfl, ⟨rfl, rfl, rfl, ?_, trivial⟩, rfl, rfl, rfl, hpB _⟩
                      show some (Go.Lx.V.p (.int .i64 _)) = _
                      rw [hinc]
                    · exact absurd (he.trans (he2.symm.trans h2)) hne
                  · cbv
                    refine hcall1 _ _ _ _ _ (CallEv.lend [2, 3] hBr rfl (.cons (.own 0 2 0 rfl) (.cons (.p _) .nil)) (rpL rfl rfl rfl rfl) ?_)
                    rintro _ _ ⟨e2, he2, rfl, ⟨hne2, _⟩ | ⟨rfl, rs2, m2, hm2, hrs2, rfl⟩⟩
                    · exact absurd (he2.trans he.symm) hne2
                    · have hnew := hokk.back hi6 he hn2 hws2 hm2 hrs2
                      cbv
                      refine hcall1 _ _ _ _ _ (CallEv.shown [] [0, 1] (hEn a f ver us ((ws2.drop 0).take n2)) rfl (.cons (psT (by decide) (by decide) rfl rfl _ rfl) .nil) trivial ?_)
                      rintro _ _ ⟨rfl, rfl⟩
                      refine ⟨.p _ (.tup _ fun c hc => by simp only [List.mem_cons, List.not_mem_nil, or_false] at hc; rcases hc with rfl | rfl <;> constructor), (by intro r hr; cases hr), ?_⟩
                      cbv
                      repeat (first | (refine vcIf.yes ?_ ?_; (focus (simp [hA1.not, hA1.eq, hA1.lt, hA1.le, hA1.cond, hA1.beq, hA1.orb, hL1.len, hL1.slen, hL1.sq]; done)); cbv) | (refine vcIf.no ?_ ?_; (focus (simp [hA1.not, hA1.eq, hA1.lt, hA1.le, hA1.cond, hA1.beq, hA1.orb, hL1.len, hL1.slen, hL1.sq]; done)); cbv) | fail)
                      refine hrd _ ⟨⟨i + 1, n2, m2, a, f, ver, us, ws2, rs2, ps, _, _⟩, _, hmu, hnew, rfl, ⟨rfl, rfl, rfl, ?_, trivial⟩, rfl, rfl, rfl, hpB _⟩
                      show some (Go.Lx.V.p (.int .i64 _)) = _
                      rw [hinc]
    · intro add1 sub1 mul1 quo1 rem1 band1 bor1 bxor1 bclr1 shl1 shr1 ieq1 ilt1 ile1 seq1 slt1 beq1 bnot1 orb1 bcond1 iwrap1 iof1 ssz1 hA1 cat1 sq1 sl1 imin1 imax1 smin1 smax1 len1 slen1 u81 hL1 op1 hop1 call1 hcall1 code1 hcode1
      cbv
      repeat (first | (refine vcIf.yes ?_ ?_; (focus (simp [hA1.not, hA1.eq, hA1.lt, hA1.le, hA1.cond, hA1.beq, hA1.orb, hL1.len, hL1.slen, hL1.sq, hAl, hiN, hi6]; done)); cbv) | (refine vcIf.no ?_ ?_; (focus (simp [hA1.not, hA1.eq, hA1.lt, hA1.le, hA1.cond, hA1.beq, hA1.orb, hL1.len, hL1.slen, hL1.sq, hAl, hiN, hi6]; done)); cbv) | fail)
      refine vcIf.no (by first | (simp [hA1.not, hA1.eq, hA1.lt, hA1.le, hA1.cond, hA1.beq, hA1.orb, hL1.len, hL1.slen, hL1.sq, hi6]; done) | (simp only [hi6]; simp [hA1.not, hA1.eq, hA1.lt, hA1.le, hA1.cond, hA1.beq, hA1.orb, hL1.len, hL1.slen, hL1.sq, hi6]; done) | (simp [hA1.not, hA1.eq, hA1.lt, hA1.le, hA1.cond, hA1.beq, hA1.orb, hL1.len, hL1.slen, hL1.sq, hi6]; omega) | (simp only [hi6]; simp [hA1.not, hA1.eq, hA1.lt, hA1.le, hA1.cond, hA1.beq, hA1.orb, hL1.len, hL1.slen, hL1.sq, hi6]; omega)) ?_
      cbv
      repeat (first | (refine vcIf.yes ?_ ?_; (focus (simp [hA.not, hA.eq, hA.lt, hA.le, hA.cond, hA.beq, hA.orb, hL.len, hL.slen, hL.sq]; done)); cbv) | (refine vcIf.no ?_ ?_; (focus (simp [hA.not, hA.eq, hA.lt, hA.le, hA.cond, hA.beq, hA.orb, hL.len, hL.slen, hL.sq]; done)); cbv) | fail)
      exact hret _ (RetEv.ret eOk rfl (by simp [hA.not, hA.eq, hA.lt, hA.le, hA.cond, hA.beq, hA.orb, hL.len, hL.slen, hL.sq, oneOf]))
  · intro add1 sub1 mul1 quo1 rem1 band1 bor1 bxor1 bclr1 shl1 shr1 ieq1 ilt1 ile1 seq1 slt1 beq1 bnot1 orb1 bcond1 iwrap1 iof1 ssz1 hA1 cat1 sq1 sl1 imin1 imax1 smin1 smax1 len1 slen1 u81 hL1 op1 hop1 call1 hcall1 code1 hcode1
    cbv
    repeat (first | (refine vcIf.yes ?_ ?_; (focus (simp [hA1.not, hA1.eq, hA1.lt, hA1.le, hA1.cond, hA1.beq, hA1.orb, hL1.len, hL1.slen, hL1.sq, hAl, hiN]; done)); cbv) | (refine vcIf.no ?_ ?_; (focus (simp [hA1.not, hA1.eq, hA1.lt, hA1.le, hA1.cond, hA1.beq, hA1.orb, hL1.len, hL1.slen, hL1.sq, hAl, hiN]; done)); cbv) | fail)
    exact hret _ (RetEv.ret eOk rfl (by simp [hA.not, hA.eq, hA.lt, hA.le, hA.cond, hA.beq, hA.orb, hL.len, hL.slen, hL.sq, oneOf]))
end Go.Proofs.Ytdeolllpbflemaa
