/- ProofLater. Conditions: on sizes. -/
import Derived.Test.YtdoikpagilmplaaLPq1
set_option maxRecDepth 100000
set_option maxHeartbeats 32000000
set_option linter.unusedSimpArgs false
set_option linter.unusedVariables false
namespace Go.Proofs.Ytdoikpagilmplaa
open Go Go.Lx
open Go.Sx (vcIf)

theorem btP_wf (l : List Bt) : Wf 4 (btP l) := fun x hx => by obtain ⟨c, _, rfl⟩ := List.mem_map.1 hx; exact c.wf
theorem Dd.wf (d : Dd) : d.v.wf 8 := ⟨rfl, fun u hu => by simp [Dd.v, PV.cells] at hu; rcases hu with rfl | rfl | rfl | rfl | rfl | rfl | rfl | rfl <;> rfl⟩
theorem bnd4 {n P Q : Nat} (h : ((n + 1) * P + Q + 1) * 32 ≤ 140737488355328) : (n * P + Q + 1) * 32 ≤ 140737488355328 := Nat.le_trans (Nat.mul_le_mul_right _ (Nat.succ_le_succ (Nat.add_le_add_right (Nat.mul_le_mul_right _ (Nat.le_succ n)) _))) h
/-- Loop 1: the last version so far. -/
def lastInv (l : List Bt) (i : Nat) (v : Int) : Prop := 100 ≤ v ∧ v ≤ 1000 ∧ ∀ (j : Nat) (b : Bt), j < i → l[j]? = some b → b.ver ≤ v
theorem lastInv.up {l : List Bt} {i : Nat} {v w : Int} {b : Bt} (h : lastInv l i v) (hb : l[i]? = some b) (hw : v ≤ w) (hbw : b.ver ≤ w) (hw2 : w ≤ 1000) : lastInv l (i + 1) w := by
  obtain ⟨h1, h2, h3⟩ := h
  refine ⟨by omega, hw2, fun j c hj hc => ?_⟩
  rcases Nat.lt_succ_iff_lt_or_eq.1 hj with e | e
  · have := h3 j c e hc; omega
  · subst e; rw [hb] at hc; cases hc; exact hbw
/-- Loop 2: the deeds that are taken. -/
def fewInv (ds : List Dd) (v : Int) (i m : Nat) (us : List PV) : Prop := ∃ fs : List Dd, us = ddP fs ∧ fs.length = m ∧ m ≤ i ∧ ∀ d ∈ fs, d ∈ ds ∧ d.r ≤ v ∧ d.w ≤ v
theorem fewInv.skip {ds : List Dd} {v : Int} {i m : Nat} {us : List PV} (h : fewInv ds v i m us) : fewInv ds v (i + 1) m us := by
  obtain ⟨fs, a, b, c, d⟩ := h; exact ⟨fs, a, b, by omega, d⟩
theorem fewInv.more {ds : List Dd} {v : Int} {i m : Nat} {us : List PV} {d : Dd} (h : fewInv ds v i m us) (hd : ds[i]? = some d) (h1 : d.r ≤ v) (h2 : d.w ≤ v) : fewInv ds v (i + 1) (m + 1) (us ++ [d.v]) := by
  obtain ⟨fs, a, b, c, e⟩ := h
  refine ⟨fs ++ [d], by rw [a]; unfold ddP; simp, by simp [b], by omega, fun x hx => ?_⟩
  rcases List.mem_append.1 hx with g | g
  · exact e x g
  · obtain rfl := List.mem_singleton.1 g
    exact ⟨List.mem_of_getElem? hd, h1, h2⟩
/-- What the six calls answer. -/
theorem laterF (l : List Bt) (P Q : Nat) (hP : ∀ b ∈ l, b.ch.length ≤ P) (hl : (l.length + 1) * 48 ≤ 140737488355328) (hf : ∀ b ∈ l, b.fit) (ds : List Dd) (hQ : ∀ d ∈ ds, d.ch.length ≤ Q) (hsz : ((l.length + 1) * P + Q + 1) * 32 ≤ 140737488355328) (hdl : ds.length < 281474976710656) (hdf : ∀ d ∈ ds, d.fit)
    (hP2 : P < 281474976710656) (ms : List Chg) (hms : ∀ c ∈ ms, c.fit) (hml : ms.length ≤ P) (v w : Int) (hv : lastInv l l.length v) (fs : List Dd) (hfl : fs.length < 281474976710656) (hfs : ∀ d ∈ fs, d ∈ ds ∧ d.r ≤ v ∧ d.w ≤ v) (hw1 : v < w) (hw2 : w ≤ 2000) (zs qs us : List PV) (hzs : zs = btP l) (hqs : qs = btP (l ++ [⟨0, w, 0, ms⟩])) (hus : us = ddP fs) :
    ∃ (ok : Prop) (a b c : Int → Prop), (ok ↔ (lsnd l ∧ chks ms = 0)) ∧ (∀ x y, a x → a y → x = y) ∧ (∀ x y, b x → b y → x = y) ∧ (∀ x y, c x → c y → x = y)
      ∧ FnL Try.prog 16 [.p (.sl zs), .p (.sl us)] [] (fun z own => ∃ n e : Int, ((lsnd l ∧ e = 0 ∧ a n) ∨ (¬ lsnd l ∧ e = 2 ∧ n = 0)) ∧ z = .p (.tup [.int .i64 n, .int .i64 e]) ∧ own = [])
      ∧ FnL Try.prog 16 [.p (.sl qs), .p (.sl us)] [] (fun z own => ∃ n e : Int, ((ok ∧ e = 0 ∧ a n) ∨ (¬ ok ∧ e = 2 ∧ n = 0)) ∧ z = .p (.tup [.int .i64 n, .int .i64 e]) ∧ own = [])
      ∧ FnL Try.prog 20 [.p (.sl zs), .p (.sl us)] [] (fun z own => ∃ n e : Int, ((lsnd l ∧ e = 0 ∧ b n) ∨ (¬ lsnd l ∧ e = 2 ∧ n = 0)) ∧ z = .p (.tup [.int .i64 n, .int .i64 e]) ∧ own = [])
      ∧ FnL Try.prog 20 [.p (.sl qs), .p (.sl us)] [] (fun z own => ∃ n e : Int, ((ok ∧ e = 0 ∧ b n) ∨ (¬ ok ∧ e = 2 ∧ n = 0)) ∧ z = .p (.tup [.int .i64 n, .int .i64 e]) ∧ own = [])
      ∧ FnL Try.prog 22 [.p (.sl zs), .p (.sl us)] [] (fun z own => ∃ n e : Int, ((lsnd l ∧ e = 0 ∧ c n) ∨ (¬ lsnd l ∧ e = 2 ∧ n = 0)) ∧ z = .p (.tup [.int .i64 n, .int .i64 e]) ∧ own = [])
      ∧ FnL Try.prog 22 [.p (.sl qs), .p (.sl us)] [] (fun z own => ∃ n e : Int, ((ok ∧ e = 0 ∧ c n) ∨ (¬ ok ∧ e = 2 ∧ n = 0)) ∧ z = .p (.tup [.int .i64 n, .int .i64 e]) ∧ own = []) := by
  obtain ⟨nb, hnb⟩ : ∃ nb : Bt, nb = ⟨0, w, 0, ms⟩ := ⟨_, rfl⟩
  have hnv : nb.ver = w := by rw [hnb]
  have hnc : nb.ch = ms := by rw [hnb]
  rw [← hnb] at hqs
  have hll : l.length < 281474976710655 := by omega
  have hmem : ∀ x ∈ l ++ [nb], x ∈ l ∨ x = nb := fun x hx => by
    rcases List.mem_append.1 hx with c | c
    · exact .inl c
    · exact .inr (List.mem_singleton.1 c)
  have hP' : ∀ b ∈ l ++ [nb], b.ch.length ≤ P := fun b hb => (hmem b hb).elim (hP b) fun c => by rw [c, hnc]; exact hml
  have hf' : ∀ b ∈ l ++ [nb], b.fit := fun b hb => (hmem b hb).elim (hf b) fun c => by
    rw [c, hnb]
    have := hv.1
    exact ⟨hms, by simp only; omega, by simp only; omega, by simp only; omega⟩
  have hl' : (l ++ [nb]).length < 281474976710656 := by simp; omega
  have hsz' : ((l ++ [nb]).length * P + Q + 1) * 32 ≤ 140737488355328 := by rw [List.length_append]; exact hsz
  have hvb : ∀ (j : Nat) (a : Bt), l[j]? = some a → a.ver < nb.ver := fun j a ha => by
    have := hv.2.2 j a (List.getElem?_eq_some_iff.1 ha).1 ha
    rw [hnv]; omega
  have hok := lsnd_app (l := l) (b := nb) (by have := hv.1; rw [hnv]; omega) hvb
  rw [hnc] at hok
  have hfr : ∀ d ∈ fs, d.r < nb.ver := fun d hd => by have := (hfs d hd).2.1; rw [hnv]; omega
  have hfw : ∀ d ∈ fs, d.w < nb.ver := fun d hd => by have := (hfs d hd).2.2; rw [hnv]; omega
  have hQf : ∀ d ∈ fs, d.ch.length ≤ Q := fun d hd => hQ d (hfs d hd).1
  have hdf' : ∀ d ∈ fs, d.fit := fun d hd => hdf d (hfs d hd).1
  have hc1 : ∀ b ∈ l, b.ch.length < 281474976710656 := fun b hb => Nat.lt_of_le_of_lt (hP b hb) hP2
  have hc2 : ∀ b ∈ l ++ [nb], b.ch.length < 281474976710656 := fun b hb => Nat.lt_of_le_of_lt (hP' b hb) hP2
  have e1 : rbad (l ++ [nb]) fs = rbad l fs := funext fun i => propext (rbad_app hfr i).symm
  have e2 : sbad (l ++ [nb]) fs = sbad l fs := funext fun i => propext (sbad_app hfw i).symm
  have e3 : cbad (l ++ [nb]) fs = cbad l fs := funext fun i => propext (cbad_app hfw i).symm
  refine ⟨lsnd (l ++ [nb]), isFst (rbad l fs) fs.length, isFst (sbad l fs) fs.length, isFst (cbad l fs) fs.length, hok, fun x y h1 h2 => h1.uniq h2, fun x y h1 h2 => h1.uniq h2, fun x y h1 h2 => h1.uniq h2, ?_, ?_, ?_, ?_, ?_, ?_⟩
  · exact reads_spec l P Q hP (by omega) hf fs hQf (bnd4 hsz) hfl hdf' zs us hzs hus
  · rw [← e1]; exact reads_spec (l ++ [nb]) P Q hP' hl' hf' fs hQf hsz' hfl hdf' qs us hqs hus
  · exact stands_spec l (by omega) hf hc1 fs hfl hdf' zs us hzs hus
  · rw [← e2]; exact stands_spec (l ++ [nb]) hl' hf' hc2 fs hfl hdf' qs us hqs hus
  · exact clear22_spec l (by omega) hf hc1 fs hfl hdf' zs us hzs hus
  · rw [← e3]; exact clear22_spec (l ++ [nb]) hl' hf' hc2 fs hfl hdf' qs us hqs hus
theorem bnd5 {m k : Nat} (h1 : m ≤ k) (h2 : k < 50) : m + 1 ≤ maxLen ∧ (m + 1) * 96 ≤ 140737488355328 := by unfold maxLen; omega
theorem bnd7 {L : Nat} (_ : True) (h : (L + 1) * 48 ≤ 140737488355328) : 0 + L ≤ maxLen ∧ (0 + L) * 48 ≤ 140737488355328 ∧ L + 1 ≤ maxLen := by unfold maxLen; omega
theorem bnd8 {v w : Int} {step : Nat} (h1 : 100 ≤ v) (h2 : v ≤ 1000) (h3 : step ≤ 255) (hw : w = v + 1 + (step : Int)) : IntKind.i64.wrap (Int.ofNat step) = (step : Int) ∧ IntKind.i64.wrap (v + 1) = v + 1 ∧ IntKind.i64.wrap (v + 1 + (step : Int)) = w := by
  refine ⟨by rw [IntWalk.i64_in _ (by simp only [Int.ofNat_eq_natCast]; omega)]; rfl, by rw [IntWalk.i64_in _ (by omega)], by rw [IntWalk.i64_in _ (by omega), hw]⟩
theorem bnd6 {k N : Nat} (h : k < N) (h2 : k < 50) (hN : N < 281474976710656) : IntKind.i64.wrap (Int.ofNat k + 1) = Int.ofNat (k + 1) ∧ decide ((Int.ofNat k : Int) < 50) = true ∧ k + 1 ≤ N ∧ k + 1 ≤ 50 ∧ N + 1 - (k + 1) < N + 1 - k := by
  refine ⟨by rw [IntWalk.i64_in _ (by simp only [Int.ofNat_eq_natCast]; omega)]; rfl, decide_eq_true (by simp only [Int.ofNat_eq_natCast]; omega), h, h2, by omega⟩
theorem proofLater (l : List Bt) (P Q : Nat) (hP : ∀ b ∈ l, b.ch.length ≤ P) (hl : (l.length + 1) * 48 ≤ 140737488355328) (hf : ∀ b ∈ l, b.fit) (ds : List Dd) (hQ : ∀ d ∈ ds, d.ch.length ≤ Q) (hsz : ((l.length + 1) * P + Q + 1) * 32 ≤ 140737488355328) (hdl : ds.length < 281474976710656) (hdf : ∀ d ∈ ds, d.fit)
    (hP2 : P < 281474976710656) (ms : List Chg) (hms : ∀ c ∈ ms, c.fit) (hml : ms.length ≤ P) (step : Nat) (hst : step ≤ 255) :
    FnL Try.prog 10 [.p (.sl (btP l)), .p (.sl (ddP ds)), .p (.sl (cP ms)), .p (.int .u8 (step : Int))] [] fun z own => z = .p (.bool true) ∧ own = [] := by
  refine FnL.flat (R := fun z own => z = .p (.bool true)) ?_ (fun v own' h => ⟨_, _, h, .refl _, rfl, rfl⟩)
  obtain ⟨zs, hzs⟩ : ∃ zs, zs = btP l := ⟨_, rfl⟩
  obtain ⟨ys, hys⟩ : ∃ ys, ys = ddP ds := ⟨_, rfl⟩
  obtain ⟨xs, hxs⟩ : ∃ xs, xs = cP ms := ⟨_, rfl⟩
  obtain ⟨N, hN⟩ : ∃ N, N = ds.length := ⟨_, rfl⟩
  obtain ⟨L, hL0⟩ : ∃ L, L = l.length := ⟨_, rfl⟩
  have hyl : ys.length = N := by rw [hys, ddP_length, hN]
  have hzl : zs.length = L := by rw [hzs, btP_length, hL0]
  have hzw : Wf 4 zs := by rw [hzs]; exact btP_wf l
  rw [← hzs, ← hys, ← hxs]
  rw [← hL0] at hl
  rw [← hN] at hdl
  have hbw : ∀ y : Int, PV.wf 4 (.agg [.int .i64 0, .int .i64 y, .int .i64 0, .sl xs]) := fun y => by rw [hxs]; exact Bt.wf ⟨0, y, 0, ms⟩
  have hall := rall_spec ms (Nat.lt_of_le_of_lt hml (Nat.lt_of_lt_of_le hP2 (by decide))) xs hxs
  have hfin := fun (v : Int) (hv : lastInv l L v) (fs : List Dd) (hfl : fs.length < 281474976710656) (hfs : ∀ d ∈ fs, d ∈ ds ∧ d.r ≤ v ∧ d.w ≤ v) (w : Int) (hw : w = v + 1 + step) (us : List PV) (hus : us = ddP fs) (qs : List PV) (hqs : qs = zs ++ [.agg [.int .i64 0, .int .i64 w, .int .i64 0, .sl xs]]) =>
    laterF l P Q hP (by rw [← hL0]; exact hl) hf ds hQ hsz (by rw [← hN]; exact hdl) hdf hP2 ms hms hml v w (by rw [← hL0]; exact hv) fs hfl hfs (by omega) (by have := hv.2.1; omega) zs qs us hzs (by rw [hqs, hzs, hxs]; unfold btP; rw [List.map_append]; rfl) hus
  refine fn_of_vc eOk fOk fo10 Try.func10 rfl rfl rfl fun B hB => ?_
  intro add sub mul quo rem band bor bxor bclr shl shr ieq ilt ile seq slt beq bnot orb bcond iwrap iof ssz hA cat sq sl imin imax smin smax len slen u8 hL op hop call hcall code hcode ret hret
  cbv
  refine hcode _ _ _ (CodeEv.loop eOk fOk (ι := Nat × Int) (fun s => [(0, .p (.sl zs)), (1, .p (.sl ys)), (2, .p (.sl xs)), (3, .p (.int .u8 (step : Int))), (9, .p (.int .i64 s.2)), (10, .p (.int .i64 (Int.ofNat s.1)))])
    (fun s => []) (fun s => s.1 ≤ L ∧ lastInv l s.1 s.2) (fun s => L - s.1) (0, 100) ?_ ?_)
  · exact ⟨(by repeat (first | exact trivial | refine And.intro rfl ?_)), rfl, Nat.zero_le _, by decide, by decide, fun j b h => absurd h (Nat.not_lt_zero j)⟩
  rintro ⟨i, v⟩ ⟨k1, k2⟩ rd hrd
  simp only at k1 k2
  by_cases hi : i < L
  · refine Exists.elim (get_of_lt (show i < l.length by omega)) fun b hb => ?_
    have hzi : zs[i]? = some (.agg [.int .i64 b.prev, .int .i64 b.ver, .int .i64 b.known, .sl (cP b.ch)]) := by rw [hzs]; exact btP_get hb
    have hup := fun (w : Int) => k2.up hb (w := w)
    have hv1 := k2.2.1
    clear hb
    obtain ⟨bp, bv, bk, bc⟩ := b
    simp only at hzi hup
    refine Exists.elim (show ∃ bs, bs = cP bc from ⟨_, rfl⟩) fun bs hbs => ?_
    rw [← hbs] at hzi
    clear hbs
    intro add1 sub1 mul1 quo1 rem1 band1 bor1 bxor1 bclr1 shl1 shr1 ieq1 ilt1 ile1 seq1 slt1 beq1 bnot1 orb1 bcond1 iwrap1 iof1 ssz1 hA1 cat1 sq1 sl1 imin1 imax1 smin1 smax1 len1 slen1 u81 hL1 op1 hop1 call1 hcall1 code1 hcode1
    have hadd1 : add1 .i64 (Int.ofNat i) 1 = Int.ofNat (i + 1) := by rw [hA1.add, IntWalk.i64_in _ (by simp only [Int.ofNat_eq_natCast]; omega)]; rfl
    have e0 : len1 zs = Int.ofNat L := by rw [hL1.len, hzl]; rfl
    cbv
    refine vcIf.yes (by first | (simp [hA1.not, hA1.eq, hA1.lt, hA1.le, hA1.cond, hA1.beq, hA1.orb, hL1.len, hL1.slen, hL1.sq, e0, hi]; done) | (simp only [e0, hi]; simp [hA1.not, hA1.eq, hA1.lt, hA1.le, hA1.cond, hA1.beq, hA1.orb, hL1.len, hL1.slen, hL1.sq, e0, hi]; done) | (simp [hA1.not, hA1.eq, hA1.lt, hA1.le, hA1.cond, hA1.beq, hA1.orb, hL1.len, hL1.slen, hL1.sq, e0, hi]; omega) | (simp only [e0, hi]; simp [hA1.not, hA1.eq, hA1.lt, hA1.le, hA1.cond, hA1.beq, hA1.orb, hL1.len, hL1.slen, hL1.sq, e0, hi]; omega)) ?_
    cbv
    refine ⟨i, _, rfl, hzi, rfl, ?_⟩
    cbv
    by_cases h1 : 1000 < bv
    · refine vcIf.yes (by first | (simp [hA1.not, hA1.eq, hA1.lt, hA1.le, hA1.cond, hA1.beq, hA1.orb, hL1.len, hL1.slen, hL1.sq, h1]; done) | (simp only [h1]; simp [hA1.not, hA1.eq, hA1.lt, hA1.le, hA1.cond, hA1.beq, hA1.orb, hL1.len, hL1.slen, hL1.sq, h1]; done) | (simp [hA1.not, hA1.eq, hA1.lt, hA1.le, hA1.cond, hA1.beq, hA1.orb, hL1.len, hL1.slen, hL1.sq, h1]; omega) | (simp only [h1]; simp [hA1.not, hA1.eq, hA1.lt, hA1.le, hA1.cond, hA1.beq, hA1.orb, hL1.len, hL1.slen, hL1.sq, h1]; omega)) ?_
      cbv
      refine hcall1 _ _ _ _ _ (CallEv.same awake22_spec rfl ?_)
      rintro _ _ ⟨rfl, rfl⟩
      cbv
      exact hret _ (RetEv.ret eOk rfl rfl)
    refine vcIf.no (by first | (simp [hA1.not, hA1.eq, hA1.lt, hA1.le, hA1.cond, hA1.beq, hA1.orb, hL1.len, hL1.slen, hL1.sq, h1]; done) | (simp only [h1]; simp [hA1.not, hA1.eq, hA1.lt, hA1.le, hA1.cond, hA1.beq, hA1.orb, hL1.len, hL1.slen, hL1.sq, h1]; done) | (simp [hA1.not, hA1.eq, hA1.lt, hA1.le, hA1.cond, hA1.beq, hA1.orb, hL1.len, hL1.slen, hL1.sq, h1]; omega) | (simp only [h1]; simp [hA1.not, hA1.eq, hA1.lt, hA1.le, hA1.cond, hA1.beq, hA1.orb, hL1.len, hL1.slen, hL1.sq, h1]; omega)) ?_
    cbv
    refine ⟨i, _, rfl, hzi, rfl, ?_⟩
    cbv
    by_cases h2 : v < bv
    · have hnx := hup bv (by omega) (Int.le_refl _) (by omega)
      refine vcIf.yes (by first | (simp [hA1.not, hA1.eq, hA1.lt, hA1.le, hA1.cond, hA1.beq, hA1.orb, hL1.len, hL1.slen, hL1.sq, h2]; done) | (simp only [h2]; simp [hA1.not, hA1.eq, hA1.lt, hA1.le, hA1.cond, hA1.beq, hA1.orb, hL1.len, hL1.slen, hL1.sq, h2]; done) | (simp [hA1.not, hA1.eq, hA1.lt, hA1.le, hA1.cond, hA1.beq, hA1.orb, hL1.len, hL1.slen, hL1.sq, h2]; omega) | (simp only [h2]; simp [hA1.not, hA1.eq, hA1.lt, hA1.le, hA1.cond, hA1.beq, hA1.orb, hL1.len, hL1.slen, hL1.sq, h2]; omega)) ?_
      cbv
      refine ⟨i, _, rfl, hzi, rfl, ?_⟩
      cbv
      refine hrd _ ⟨(i + 1, bv), _, ?_, ⟨hi, hnx⟩, rfl, ⟨rfl, rfl, rfl, rfl, rfl, ?_, trivial⟩, rfl, rfl, rfl, ?_⟩
      · show L - (i + 1) < L - i
        omega
      · show some (V.p (.int .i64 _)) = _
        rw [hadd1]
      · rw [hB]; exact Nat.le_refl _
    · have hnx := hup v (Int.le_refl _) (by omega) hv1
      refine vcIf.no (by first | (simp [hA1.not, hA1.eq, hA1.lt, hA1.le, hA1.cond, hA1.beq, hA1.orb, hL1.len, hL1.slen, hL1.sq, h2]; done) | (simp only [h2]; simp [hA1.not, hA1.eq, hA1.lt, hA1.le, hA1.cond, hA1.beq, hA1.orb, hL1.len, hL1.slen, hL1.sq, h2]; done) | (simp [hA1.not, hA1.eq, hA1.lt, hA1.le, hA1.cond, hA1.beq, hA1.orb, hL1.len, hL1.slen, hL1.sq, h2]; omega) | (simp only [h2]; simp [hA1.not, hA1.eq, hA1.lt, hA1.le, hA1.cond, hA1.beq, hA1.orb, hL1.len, hL1.slen, hL1.sq, h2]; omega)) ?_
      cbv
      refine hrd _ ⟨(i + 1, v), _, ?_, ⟨hi, hnx⟩, rfl, ⟨rfl, rfl, rfl, rfl, rfl, ?_, trivial⟩, rfl, rfl, rfl, ?_⟩
      · show L - (i + 1) < L - i
        omega
      · show some (V.p (.int .i64 _)) = _
        rw [hadd1]
      · rw [hB]; exact Nat.le_refl _
  · have hiL : i = L := by omega
    rw [hiL] at k2
    have hfin := hfin v k2
    have hv1 := k2.1
    have hv2 := k2.2.1
    intro add1 sub1 mul1 quo1 rem1 band1 bor1 bxor1 bclr1 shl1 shr1 ieq1 ilt1 ile1 seq1 slt1 beq1 bnot1 orb1 bcond1 iwrap1 iof1 ssz1 hA1 cat1 sq1 sl1 imin1 imax1 smin1 smax1 len1 slen1 u81 hL1 op1 hop1 call1 hcall1 code1 hcode1
    have e0 : len1 zs = Int.ofNat L := by rw [hL1.len, hzl]; rfl
    cbv
    refine vcIf.no (by first | (simp [hA1.not, hA1.eq, hA1.lt, hA1.le, hA1.cond, hA1.beq, hA1.orb, hL1.len, hL1.slen, hL1.sq, e0, hi]; done) | (simp only [e0, hi]; simp [hA1.not, hA1.eq, hA1.lt, hA1.le, hA1.cond, hA1.beq, hA1.orb, hL1.len, hL1.slen, hL1.sq, e0, hi]; done) | (simp [hA1.not, hA1.eq, hA1.lt, hA1.le, hA1.cond, hA1.beq, hA1.orb, hL1.len, hL1.slen, hL1.sq, e0, hi]; omega) | (simp only [e0, hi]; simp [hA1.not, hA1.eq, hA1.lt, hA1.le, hA1.cond, hA1.beq, hA1.orb, hL1.len, hL1.slen, hL1.sq, e0, hi]; omega)) ?_
    cbv
    refine ⟨true, ?_⟩
    cbv
    refine hcode _ _ _ (CodeEv.loop eOk fOk (ι := Nat × Nat × List PV) (fun s => [(0, .p (.sl zs)), (1, .p (.sl ys)), (2, .p (.sl xs)), (3, .p (.int .u8 (step : Int))), (9, .p (.int .i64 v)), (11, .vw 0 8 0 s.2.1 none), (12, .p (.int .i64 (Int.ofNat s.1)))])
      (fun s => [.arr 46 8 s.2.2]) (fun s => s.1 ≤ N ∧ s.1 ≤ 50 ∧ fewInv ds v s.1 s.2.1 s.2.2 ∧ s.2.2.length = s.2.1) (fun s => N + 1 - s.1) (0, 0, []) ?_ ?_)
    · exact ⟨(by repeat (first | exact trivial | refine And.intro rfl ?_)), rfl, Nat.zero_le _, Nat.zero_le _, ⟨[], rfl, rfl, Nat.le_refl _, fun d hd => by cases hd⟩, rfl⟩
    rintro ⟨k, m, us⟩ ⟨m1, m2, m3, m4⟩ rd2 hrd2
    simp only at m1 m2 m3 m4
    by_cases hk : k < N ∧ k < 50
    · refine Exists.elim (get_of_lt (show k < ds.length by omega)) fun d hd => ?_
      have hk1 := hk.1
      have hk2 := hk.2
      have hmk : m ≤ k := by obtain ⟨_, _, _, h, _⟩ := m3; exact h
      have hyk : ys[k]? = some (.agg [.int .i64 d.g, .int .i64 d.b, .int .i64 d.e, .int .i64 d.r, .int .i64 d.o, .int .i64 d.w, .sl (snP d.seen), .sl (cP d.ch)]) := by rw [hys]; exact ddP_get hd
      have hsk := m3.skip
      have hmo := m3.more hd
      have hdw := d.wf
      clear hd
      refine Exists.elim (show ∃ ss, ss = snP d.seen from ⟨_, rfl⟩) fun ss hss => ?_
      refine Exists.elim (show ∃ cs, cs = cP d.ch from ⟨_, rfl⟩) fun cs hcs => ?_
      have hdv : d.v = .agg [.int .i64 d.g, .int .i64 d.b, .int .i64 d.e, .int .i64 d.r, .int .i64 d.o, .int .i64 d.w, .sl ss, .sl cs] := by rw [hss, hcs]; rfl
      rw [← hss, ← hcs] at hyk
      rw [hdv] at hmo hdw
      clear hss hcs hdv
      obtain ⟨dg, db, de, dr, do_, dw, dseen, dch⟩ := d
      simp only at hyk hmo hdw
      have hbd := bnd5 hmk hk2
      have hb6 := bnd6 hk1 hk2 hdl
      intro add2 sub2 mul2 quo2 rem2 band2 bor2 bxor2 bclr2 shl2 shr2 ieq2 ilt2 ile2 seq2 slt2 beq2 bnot2 orb2 bcond2 iwrap2 iof2 ssz2 hA2 cat2 sq2 sl2 imin2 imax2 smin2 smax2 len2 slen2 u82 hL2 op2 hop2 call2 hcall2 code2 hcode2
      have hadd2 : add2 .i64 (Int.ofNat k) 1 = Int.ofNat (k + 1) := by rw [hA2.add]; exact hb6.1
      have e2 : len2 ys = Int.ofNat N := by rw [hL2.len, hyl]; rfl
      cbv
      refine vcIf.yes (by first | (simp [hA2.not, hA2.eq, hA2.lt, hA2.le, hA2.cond, hA2.beq, hA2.orb, hL2.len, hL2.slen, hL2.sq, e2, hk1]; done) | (simp only [e2, hk1]; simp [hA2.not, hA2.eq, hA2.lt, hA2.le, hA2.cond, hA2.beq, hA2.orb, hL2.len, hL2.slen, hL2.sq, e2, hk1]; done) | (simp [hA2.not, hA2.eq, hA2.lt, hA2.le, hA2.cond, hA2.beq, hA2.orb, hL2.len, hL2.slen, hL2.sq, e2, hk1]; omega) | (simp only [e2, hk1]; simp [hA2.not, hA2.eq, hA2.lt, hA2.le, hA2.cond, hA2.beq, hA2.orb, hL2.len, hL2.slen, hL2.sq, e2, hk1]; omega)) ?_
      cbv
      refine vcIf.yes (by rw [hA2.cond, hA2.lt]; exact hb6.2.1) ?_
      cbv
      refine ⟨k, _, rfl, hyk, rfl, ?_⟩
      cbv
      by_cases h1 : dr ≤ v
      · refine vcIf.yes (by first | (simp [hA2.not, hA2.eq, hA2.lt, hA2.le, hA2.cond, hA2.beq, hA2.orb, hL2.len, hL2.slen, hL2.sq, h1]; done) | (simp only [h1]; simp [hA2.not, hA2.eq, hA2.lt, hA2.le, hA2.cond, hA2.beq, hA2.orb, hL2.len, hL2.slen, hL2.sq, h1]; done) | (simp [hA2.not, hA2.eq, hA2.lt, hA2.le, hA2.cond, hA2.beq, hA2.orb, hL2.len, hL2.slen, hL2.sq, h1]; omega) | (simp only [h1]; simp [hA2.not, hA2.eq, hA2.lt, hA2.le, hA2.cond, hA2.beq, hA2.orb, hL2.len, hL2.slen, hL2.sq, h1]; omega)) ?_
        cbv
        refine ⟨k, _, rfl, hyk, rfl, ?_⟩
        cbv
        by_cases h2 : dw ≤ v
        · have hnx := hmo h1 h2
          refine vcIf.yes (by rw [hA2.cond, hA2.le]; simp [cond, h2]) ?_
          cbv
          refine ⟨k, _, rfl, hyk, rfl, ?_⟩
          cbv
          refine ⟨false, ?_⟩
          cbv
          refine .inl ⟨(), rfl, m4.symm, Wf.one hdw, ?_, ?_, ?_⟩
          · exact hbd.1
          · exact hbd.2
          intro us2 m2' hw hn3
          replace hw : us2 = us ++ [.agg [.int .i64 dg, .int .i64 db, .int .i64 de, .int .i64 dr, .int .i64 do_, .int .i64 dw, .sl ss, .sl cs]] := hw
          replace hn3 : m2' = m + 1 := hn3
          rw [← hw, ← hn3] at hnx
          have hul : us2.length = m2' := by rw [hw, hn3, List.length_append, m4]; rfl
          cbv
          refine hrd2 _ ⟨(k + 1, m2', us2), _, hb6.2.2.2.2, ⟨hb6.2.2.1, hb6.2.2.2.1, hnx, hul⟩, rfl, ⟨rfl, rfl, rfl, rfl, rfl, rfl, ?_, trivial⟩, rfl, rfl, rfl, ?_⟩
          · show some (V.p (.int .i64 _)) = _
            rw [hadd2]
          · rw [hB]; exact Nat.zero_le _
        · have hnx := hsk
          refine vcIf.no (by rw [hA2.cond, hA2.le]; simp [cond]; omega) ?_
          cbv
          refine hrd2 _ ⟨(k + 1, m, us), _, hb6.2.2.2.2, ⟨hb6.2.2.1, hb6.2.2.2.1, hnx, m4⟩, rfl, ⟨rfl, rfl, rfl, rfl, rfl, rfl, ?_, trivial⟩, rfl, rfl, rfl, ?_⟩
          · show some (V.p (.int .i64 _)) = _
            rw [hadd2]
          · rw [hB]; exact Nat.zero_le _
      · have hnx := hsk
        refine vcIf.no (by first | (simp [hA2.not, hA2.eq, hA2.lt, hA2.le, hA2.cond, hA2.beq, hA2.orb, hL2.len, hL2.slen, hL2.sq, h1]; done) | (simp only [h1]; simp [hA2.not, hA2.eq, hA2.lt, hA2.le, hA2.cond, hA2.beq, hA2.orb, hL2.len, hL2.slen, hL2.sq, h1]; done) | (simp [hA2.not, hA2.eq, hA2.lt, hA2.le, hA2.cond, hA2.beq, hA2.orb, hL2.len, hL2.slen, hL2.sq, h1]; omega) | (simp only [h1]; simp [hA2.not, hA2.eq, hA2.lt, hA2.le, hA2.cond, hA2.beq, hA2.orb, hL2.len, hL2.slen, hL2.sq, h1]; omega)) ?_
        cbv
        refine hrd2 _ ⟨(k + 1, m, us), _, hb6.2.2.2.2, ⟨hb6.2.2.1, hb6.2.2.2.1, hnx, m4⟩, rfl, ⟨rfl, rfl, rfl, rfl, rfl, rfl, ?_, trivial⟩, rfl, rfl, rfl, ?_⟩
        · show some (V.p (.int .i64 _)) = _
          rw [hadd2]
        · rw [hB]; exact Nat.zero_le _
    · have hb7 := bnd7 (L := L) trivial hl
      rw [← hzl] at hb7
      refine Exists.elim (show ∃ w, w = v + 1 + (step : Int) from ⟨_, rfl⟩) fun w hw => ?_
      have hwd : IntKind.i64.wrap (Int.ofNat step) = (step : Int) ∧ IntKind.i64.wrap (v + 1) = v + 1 ∧ IntKind.i64.wrap (v + 1 + (step : Int)) = w := bnd8 hv1 hv2 hst hw
      have hsix : ∀ q2, q2 = zs ++ [.agg [.int .i64 0, .int .i64 w, .int .i64 0, .sl xs]] → _ := fun q2 hq2 => by
        exact Exists.elim m3 fun fs hfs => hfin fs (Nat.lt_of_le_of_lt (by rw [hfs.2.1]; exact hfs.2.2.1) (Nat.lt_of_le_of_lt m2 (by decide))) hfs.2.2.2 w hw us hfs.1 q2 hq2
      by_cases hk1 : k < N
      · have hk2 : ¬ ((Int.ofNat k : Int) < 50) := fun c => hk ⟨hk1, by simp only [Int.ofNat_eq_natCast] at c; omega⟩
        intro add2 sub2 mul2 quo2 rem2 band2 bor2 bxor2 bclr2 shl2 shr2 ieq2 ilt2 ile2 seq2 slt2 beq2 bnot2 orb2 bcond2 iwrap2 iof2 ssz2 hA2 cat2 sq2 sl2 imin2 imax2 smin2 smax2 len2 slen2 u82 hL2 op2 hop2 call2 hcall2 code2 hcode2
        have e2 : len2 ys = Int.ofNat N := by rw [hL2.len, hyl]; rfl
        cbv
        refine vcIf.yes (by first | (simp [hA2.not, hA2.eq, hA2.lt, hA2.le, hA2.cond, hA2.beq, hA2.orb, hL2.len, hL2.slen, hL2.sq, e2, hk1]; done) | (simp only [e2, hk1]; simp [hA2.not, hA2.eq, hA2.lt, hA2.le, hA2.cond, hA2.beq, hA2.orb, hL2.len, hL2.slen, hL2.sq, e2, hk1]; done) | (simp [hA2.not, hA2.eq, hA2.lt, hA2.le, hA2.cond, hA2.beq, hA2.orb, hL2.len, hL2.slen, hL2.sq, e2, hk1]; omega) | (simp only [e2, hk1]; simp [hA2.not, hA2.eq, hA2.lt, hA2.le, hA2.cond, hA2.beq, hA2.orb, hL2.len, hL2.slen, hL2.sq, e2, hk1]; omega)) ?_
        cbv
        refine vcIf.no (by rw [hA2.cond, hA2.lt]; exact decide_eq_false hk2) ?_
        cbv
        refine ⟨true, ?_⟩
        cbv
        refine .inl ⟨(), rfl, rfl, hzw, ?_, ?_, ?_⟩
        · exact hb7.1
        · exact hb7.2.1
        intro q1 n1 hq1 hn1
        replace hq1 : q1 = [] ++ zs := hq1
        replace hn1 : n1 = 0 + zs.length := hn1
        cbv
        refine ⟨false, ?_⟩
        cbv
        have hq1l : q1.length = n1 := by rw [hq1, hn1]; simp
        refine .inl ⟨(), rfl, hq1l.symm, Wf.one (hbw _), ?_, ?_, ?_⟩
        · show n1 + 1 ≤ maxLen
          rw [hn1, Nat.zero_add]; exact hb7.2.2
        · show (n1 + 1) * 48 ≤ _
          rw [hn1, Nat.zero_add, hzl]; exact hl
        intro q2 n2 hq2 hn2
        have hww : add .i64 (add .i64 v 1) (iwrap .i64 (Int.ofNat step)) = w := by
          rw [hA.wrap, hA.add, hA.add, hwd.1, hwd.2.1]; exact hwd.2.2
        replace hq2 : q2 = q1 ++ [.agg [.int .i64 0, .int .i64 (add .i64 (add .i64 v 1) (iwrap .i64 (Int.ofNat step))), .int .i64 0, .sl xs]] := hq2
        replace hn2 : n2 = n1 + 1 := hn2
        rw [hww, hq1, List.nil_append] at hq2
        have hq2l : q2.length = n2 := by rw [hq2, hn2, hn1, List.length_append, Nat.zero_add]; rfl
        refine Exists.elim (hsix q2 hq2) fun ok hsix => ?_
        refine Exists.elim hsix fun Ra hsix => ?_
        refine Exists.elim hsix fun Rb hsix => ?_
        refine Exists.elim hsix fun Rc hsix => ?_
        have hok := hsix.1
        have ua := hsix.2.1
        have ub := hsix.2.2.1
        have uc := hsix.2.2.2.1
        have r1 := hsix.2.2.2.2.1
        have r2 := hsix.2.2.2.2.2.1
        have r3 := hsix.2.2.2.2.2.2.1
        have r4 := hsix.2.2.2.2.2.2.2.1
        have r5 := hsix.2.2.2.2.2.2.2.2.1
        have r6 := hsix.2.2.2.2.2.2.2.2.2
        clear hsix
        cbv
        refine hcall _ _ _ _ _ (CallEv.shown [] [0] r1 rfl (.cons (.p _) (.cons (.bvw 0 8 0 m none _ 8 us us (by decide) rfl (by rw [frz_full m4])) .nil)) trivial ?_)
        rintro _ _ ⟨w1, x1, z1, rfl, rfl⟩
        refine ⟨.p _ (.tup _ (by intro c hc; simp at hc; rcases hc with rfl | rfl <;> exact .int _ _)), (by intro r hr; cases hr), ?_⟩
        cbv
        refine hcall _ _ _ _ _ (CallEv.shown [] [0, 1] r2 rfl (.cons (.bvw 1 4 0 n2 none _ 4 q2 q2 (by decide) rfl (by rw [frz_full hq2l])) (.cons (.bvw 0 8 0 m none _ 8 us us (by decide) rfl (by rw [frz_full m4])) .nil)) trivial ?_)
        rintro _ _ ⟨w2, x2, z2, rfl, rfl⟩
        refine ⟨.p _ (.tup _ (by intro c hc; simp at hc; rcases hc with rfl | rfl <;> exact .int _ _)), (by intro r hr; cases hr), ?_⟩
        cbv
        refine hcall _ _ _ _ _ (CallEv.shown [] [0] r3 rfl (.cons (.p _) (.cons (.bvw 0 8 0 m none _ 8 us us (by decide) rfl (by rw [frz_full m4])) .nil)) trivial ?_)
        rintro _ _ ⟨w3, x3, z3, rfl, rfl⟩
        refine ⟨.p _ (.tup _ (by intro c hc; simp at hc; rcases hc with rfl | rfl <;> exact .int _ _)), (by intro r hr; cases hr), ?_⟩
        cbv
        refine hcall _ _ _ _ _ (CallEv.shown [] [0, 1] r4 rfl (.cons (.bvw 1 4 0 n2 none _ 4 q2 q2 (by decide) rfl (by rw [frz_full hq2l])) (.cons (.bvw 0 8 0 m none _ 8 us us (by decide) rfl (by rw [frz_full m4])) .nil)) trivial ?_)
        rintro _ _ ⟨w4, x4, z4, rfl, rfl⟩
        refine ⟨.p _ (.tup _ (by intro c hc; simp at hc; rcases hc with rfl | rfl <;> exact .int _ _)), (by intro r hr; cases hr), ?_⟩
        cbv
        refine hcall _ _ _ _ _ (CallEv.shown [] [0] r5 rfl (.cons (.p _) (.cons (.bvw 0 8 0 m none _ 8 us us (by decide) rfl (by rw [frz_full m4])) .nil)) trivial ?_)
        rintro _ _ ⟨w5, x5, z5, rfl, rfl⟩
        refine ⟨.p _ (.tup _ (by intro c hc; simp at hc; rcases hc with rfl | rfl <;> exact .int _ _)), (by intro r hr; cases hr), ?_⟩
        cbv
        refine hcall _ _ _ _ _ (CallEv.shown [] [0, 1] r6 rfl (.cons (.bvw 1 4 0 n2 none _ 4 q2 q2 (by decide) rfl (by rw [frz_full hq2l])) (.cons (.bvw 0 8 0 m none _ 8 us us (by decide) rfl (by rw [frz_full m4])) .nil)) trivial ?_)
        rintro _ _ ⟨w6, x6, z6, rfl, rfl⟩
        refine ⟨.p _ (.tup _ (by intro c hc; simp at hc; rcases hc with rfl | rfl <;> exact .int _ _)), (by intro r hr; cases hr), ?_⟩
        cbv
        refine hcall _ _ _ _ _ (CallEv.same awake22_spec rfl ?_)
        rintro _ _ ⟨rfl, rfl⟩
        by_cases hs : lsnd l
        · have y1 : x1 = 0 ∧ Ra w1 := z1.elim (fun h => h.2) fun h => absurd hs h.1
          have y3 : x3 = 0 ∧ Rb w3 := z3.elim (fun h => h.2) fun h => absurd hs h.1
          have y5 : x5 = 0 ∧ Rc w5 := z5.elim (fun h => h.2) fun h => absurd hs h.1
          by_cases hc : chks ms = 0
          · have hk' : ok := hok.2 ⟨hs, hc⟩
            have y2 : x2 = 0 ∧ Ra w2 := z2.elim (fun h => h.2) fun h => absurd hk' h.1
            have y4 : x4 = 0 ∧ Rb w4 := z4.elim (fun h => h.2) fun h => absurd hk' h.1
            have y6 : x6 = 0 ∧ Rc w6 := z6.elim (fun h => h.2) fun h => absurd hk' h.1
            have g1 := y1.1
            have g2 := y2.1
            have g3 := y3.1
            have g4 := y4.1
            have g5 := y5.1
            have g6 := y6.1
            have d1 := ua _ _ y1.2 y2.2
            have d2 := ub _ _ y3.2 y4.2
            have d3 := uc _ _ y5.2 y6.2
            clear z1 z2 z3 z4 z5 z6 y1 y2 y3 y4 y5 y6
            cbv
            repeat (first | (refine vcIf.yes ?_ ?_; (focus (simp [hA.not, hA.eq, hA.lt, hA.le, hA.cond, hA.beq, hA.orb, hL.len, hL.slen, hL.sq, g1, g3, g5]; done)); cbv) | (refine vcIf.no ?_ ?_; (focus (simp [hA.not, hA.eq, hA.lt, hA.le, hA.cond, hA.beq, hA.orb, hL.len, hL.slen, hL.sq, g1, g3, g5]; done)); cbv) | fail)
            refine hcall _ _ _ _ _ (CallEv.same hall rfl ?_)
            rintro _ _ ⟨e, he, rfl, rfl⟩
            have he0 : e = 0 := by rw [he, hc]
            cbv
            repeat (first | (refine vcIf.yes ?_ ?_; (focus (simp [hA.not, hA.eq, hA.lt, hA.le, hA.cond, hA.beq, hA.orb, hL.len, hL.slen, hL.sq, he0]; done)); cbv) | (refine vcIf.no ?_ ?_; (focus (simp [hA.not, hA.eq, hA.lt, hA.le, hA.cond, hA.beq, hA.orb, hL.len, hL.slen, hL.sq, he0]; done)); cbv) | fail)
            repeat (first | (refine vcIf.yes ?_ ?_; (focus (simp [hA.not, hA.eq, hA.lt, hA.le, hA.cond, hA.beq, hA.orb, hL.len, hL.slen, hL.sq, g2, g4, g6, d1, d2, d3]; done)); cbv) | (refine vcIf.no ?_ ?_; (focus (simp [hA.not, hA.eq, hA.lt, hA.le, hA.cond, hA.beq, hA.orb, hL.len, hL.slen, hL.sq, g2, g4, g6, d1, d2, d3]; done)); cbv) | fail)
            refine hret _ (RetEv.ret eOk rfl ?_)
            show V.p (.bool (bcond true (ieq w5 w6) false)) = _
            rw [hA.cond, hA.eq, d3]; simp [cond]
          · have hk' : ¬ ok := fun c => hc (hok.1 c).2
            have g2 : x2 = 2 := z2.elim (fun h => absurd h.1 hk') fun h => h.2.1
            have g4 : x4 = 2 := z4.elim (fun h => absurd h.1 hk') fun h => h.2.1
            have g6 : x6 = 2 := z6.elim (fun h => absurd h.1 hk') fun h => h.2.1
            have g1 := y1.1
            have g3 := y3.1
            have g5 := y5.1
            clear z1 z2 z3 z4 z5 z6 y1 y3 y5
            cbv
            repeat (first | (refine vcIf.yes ?_ ?_; (focus (simp [hA.not, hA.eq, hA.lt, hA.le, hA.cond, hA.beq, hA.orb, hL.len, hL.slen, hL.sq, g1, g3, g5]; done)); cbv) | (refine vcIf.no ?_ ?_; (focus (simp [hA.not, hA.eq, hA.lt, hA.le, hA.cond, hA.beq, hA.orb, hL.len, hL.slen, hL.sq, g1, g3, g5]; done)); cbv) | fail)
            refine hcall _ _ _ _ _ (CallEv.same hall rfl ?_)
            rintro _ _ ⟨e, he, rfl, rfl⟩
            have he0 : ¬ e = 0 := by rw [he]; exact hc
            cbv
            repeat (first | (refine vcIf.yes ?_ ?_; (focus (simp [hA.not, hA.eq, hA.lt, hA.le, hA.cond, hA.beq, hA.orb, hL.len, hL.slen, hL.sq, cond, he0]; done)); cbv) | (refine vcIf.no ?_ ?_; (focus (simp [hA.not, hA.eq, hA.lt, hA.le, hA.cond, hA.beq, hA.orb, hL.len, hL.slen, hL.sq, cond, he0]; done)); cbv) | fail)
            repeat (first | (refine vcIf.yes ?_ ?_; (focus (simp [hA.not, hA.eq, hA.lt, hA.le, hA.cond, hA.beq, hA.orb, hL.len, hL.slen, hL.sq, g2, g4, g6]; done)); cbv) | (refine vcIf.no ?_ ?_; (focus (simp [hA.not, hA.eq, hA.lt, hA.le, hA.cond, hA.beq, hA.orb, hL.len, hL.slen, hL.sq, g2, g4, g6]; done)); cbv) | fail)
            refine hret _ (RetEv.ret eOk rfl ?_)
            show V.p (.bool (bcond true (ieq x6 x2) false)) = _
            rw [hA.cond, hA.eq, g6, g2]; simp [cond]
        · have hk' : ¬ ok := fun c => hs (hok.1 c).1
          have g1 : x1 = 2 := z1.elim (fun h => absurd h.1 hs) fun h => h.2.1
          have g3 : x3 = 2 := z3.elim (fun h => absurd h.1 hs) fun h => h.2.1
          have g5 : x5 = 2 := z5.elim (fun h => absurd h.1 hs) fun h => h.2.1
          have g2 : x2 = 2 := z2.elim (fun h => absurd h.1 hk') fun h => h.2.1
          have g4 : x4 = 2 := z4.elim (fun h => absurd h.1 hk') fun h => h.2.1
          have g6 : x6 = 2 := z6.elim (fun h => absurd h.1 hk') fun h => h.2.1
          clear z1 z2 z3 z4 z5 z6
          cbv
          repeat (first | (refine vcIf.yes ?_ ?_; (focus (simp [hA.not, hA.eq, hA.lt, hA.le, hA.cond, hA.beq, hA.orb, hL.len, hL.slen, hL.sq, g1, g3, g5]; done)); cbv) | (refine vcIf.no ?_ ?_; (focus (simp [hA.not, hA.eq, hA.lt, hA.le, hA.cond, hA.beq, hA.orb, hL.len, hL.slen, hL.sq, g1, g3, g5]; done)); cbv) | fail)
          repeat (first | (refine vcIf.yes ?_ ?_; (focus (simp [hA.not, hA.eq, hA.lt, hA.le, hA.cond, hA.beq, hA.orb, hL.len, hL.slen, hL.sq, g2, g4, g6]; done)); cbv) | (refine vcIf.no ?_ ?_; (focus (simp [hA.not, hA.eq, hA.lt, hA.le, hA.cond, hA.beq, hA.orb, hL.len, hL.slen, hL.sq, g2, g4, g6]; done)); cbv) | fail)
          refine hret _ (RetEv.ret eOk rfl ?_)
          show V.p (.bool (bcond true (ieq x6 x2) false)) = _
          rw [hA.cond, hA.eq, g6, g2]; simp [cond]
      · intro add2 sub2 mul2 quo2 rem2 band2 bor2 bxor2 bclr2 shl2 shr2 ieq2 ilt2 ile2 seq2 slt2 beq2 bnot2 orb2 bcond2 iwrap2 iof2 ssz2 hA2 cat2 sq2 sl2 imin2 imax2 smin2 smax2 len2 slen2 u82 hL2 op2 hop2 call2 hcall2 code2 hcode2
        have e2 : len2 ys = Int.ofNat N := by rw [hL2.len, hyl]; rfl
        cbv
        refine vcIf.no (by first | (simp [hA2.not, hA2.eq, hA2.lt, hA2.le, hA2.cond, hA2.beq, hA2.orb, hL2.len, hL2.slen, hL2.sq, e2, hk1]; done) | (simp only [e2, hk1]; simp [hA2.not, hA2.eq, hA2.lt, hA2.le, hA2.cond, hA2.beq, hA2.orb, hL2.len, hL2.slen, hL2.sq, e2, hk1]; done) | (simp [hA2.not, hA2.eq, hA2.lt, hA2.le, hA2.cond, hA2.beq, hA2.orb, hL2.len, hL2.slen, hL2.sq, e2, hk1]; omega) | (simp only [e2, hk1]; simp [hA2.not, hA2.eq, hA2.lt, hA2.le, hA2.cond, hA2.beq, hA2.orb, hL2.len, hL2.slen, hL2.sq, e2, hk1]; omega)) ?_
        cbv
        refine ⟨true, ?_⟩
        cbv
        refine .inl ⟨(), rfl, rfl, hzw, ?_, ?_, ?_⟩
        · exact hb7.1
        · exact hb7.2.1
        intro q1 n1 hq1 hn1
        replace hq1 : q1 = [] ++ zs := hq1
        replace hn1 : n1 = 0 + zs.length := hn1
        cbv
        refine ⟨false, ?_⟩
        cbv
        have hq1l : q1.length = n1 := by rw [hq1, hn1]; simp
        refine .inl ⟨(), rfl, hq1l.symm, Wf.one (hbw _), ?_, ?_, ?_⟩
        · show n1 + 1 ≤ maxLen
          rw [hn1, Nat.zero_add]; exact hb7.2.2
        · show (n1 + 1) * 48 ≤ _
          rw [hn1, Nat.zero_add, hzl]; exact hl
        intro q2 n2 hq2 hn2
        have hww : add .i64 (add .i64 v 1) (iwrap .i64 (Int.ofNat step)) = w := by
          rw [hA.wrap, hA.add, hA.add, hwd.1, hwd.2.1]; exact hwd.2.2
        replace hq2 : q2 = q1 ++ [.agg [.int .i64 0, .int .i64 (add .i64 (add .i64 v 1) (iwrap .i64 (Int.ofNat step))), .int .i64 0, .sl xs]] := hq2
        replace hn2 : n2 = n1 + 1 := hn2
        rw [hww, hq1, List.nil_append] at hq2
        have hq2l : q2.length = n2 := by rw [hq2, hn2, hn1, List.length_append, Nat.zero_add]; rfl
        refine Exists.elim (hsix q2 hq2) fun ok hsix => ?_
        refine Exists.elim hsix fun Ra hsix => ?_
        refine Exists.elim hsix fun Rb hsix => ?_
        refine Exists.elim hsix fun Rc hsix => ?_
        have hok := hsix.1
        have ua := hsix.2.1
        have ub := hsix.2.2.1
        have uc := hsix.2.2.2.1
        have r1 := hsix.2.2.2.2.1
        have r2 := hsix.2.2.2.2.2.1
        have r3 := hsix.2.2.2.2.2.2.1
        have r4 := hsix.2.2.2.2.2.2.2.1
        have r5 := hsix.2.2.2.2.2.2.2.2.1
        have r6 := hsix.2.2.2.2.2.2.2.2.2
        clear hsix
        cbv
        refine hcall _ _ _ _ _ (CallEv.shown [] [0] r1 rfl (.cons (.p _) (.cons (.bvw 0 8 0 m none _ 8 us us (by decide) rfl (by rw [frz_full m4])) .nil)) trivial ?_)
        rintro _ _ ⟨w1, x1, z1, rfl, rfl⟩
        refine ⟨.p _ (.tup _ (by intro c hc; simp at hc; rcases hc with rfl | rfl <;> exact .int _ _)), (by intro r hr; cases hr), ?_⟩
        cbv
        refine hcall _ _ _ _ _ (CallEv.shown [] [0, 1] r2 rfl (.cons (.bvw 1 4 0 n2 none _ 4 q2 q2 (by decide) rfl (by rw [frz_full hq2l])) (.cons (.bvw 0 8 0 m none _ 8 us us (by decide) rfl (by rw [frz_full m4])) .nil)) trivial ?_)
        rintro _ _ ⟨w2, x2, z2, rfl, rfl⟩
        refine ⟨.p _ (.tup _ (by intro c hc; simp at hc; rcases hc with rfl | rfl <;> exact .int _ _)), (by intro r hr; cases hr), ?_⟩
        cbv
        refine hcall _ _ _ _ _ (CallEv.shown [] [0] r3 rfl (.cons (.p _) (.cons (.bvw 0 8 0 m none _ 8 us us (by decide) rfl (by rw [frz_full m4])) .nil)) trivial ?_)
        rintro _ _ ⟨w3, x3, z3, rfl, rfl⟩
        refine ⟨.p _ (.tup _ (by intro c hc; simp at hc; rcases hc with rfl | rfl <;> exact .int _ _)), (by intro r hr; cases hr), ?_⟩
        cbv
        refine hcall _ _ _ _ _ (CallEv.shown [] [0, 1] r4 rfl (.cons (.bvw 1 4 0 n2 none _ 4 q2 q2 (by decide) rfl (by rw [frz_full hq2l])) (.cons (.bvw 0 8 0 m none _ 8 us us (by decide) rfl (by rw [frz_full m4])) .nil)) trivial ?_)
        rintro _ _ ⟨w4, x4, z4, rfl, rfl⟩
        refine ⟨.p _ (.tup _ (by intro c hc; simp at hc; rcases hc with rfl | rfl <;> exact .int _ _)), (by intro r hr; cases hr), ?_⟩
        cbv
        refine hcall _ _ _ _ _ (CallEv.shown [] [0] r5 rfl (.cons (.p _) (.cons (.bvw 0 8 0 m none _ 8 us us (by decide) rfl (by rw [frz_full m4])) .nil)) trivial ?_)
        rintro _ _ ⟨w5, x5, z5, rfl, rfl⟩
        refine ⟨.p _ (.tup _ (by intro c hc; simp at hc; rcases hc with rfl | rfl <;> exact .int _ _)), (by intro r hr; cases hr), ?_⟩
        cbv
        refine hcall _ _ _ _ _ (CallEv.shown [] [0, 1] r6 rfl (.cons (.bvw 1 4 0 n2 none _ 4 q2 q2 (by decide) rfl (by rw [frz_full hq2l])) (.cons (.bvw 0 8 0 m none _ 8 us us (by decide) rfl (by rw [frz_full m4])) .nil)) trivial ?_)
        rintro _ _ ⟨w6, x6, z6, rfl, rfl⟩
        refine ⟨.p _ (.tup _ (by intro c hc; simp at hc; rcases hc with rfl | rfl <;> exact .int _ _)), (by intro r hr; cases hr), ?_⟩
        cbv
        refine hcall _ _ _ _ _ (CallEv.same awake22_spec rfl ?_)
        rintro _ _ ⟨rfl, rfl⟩
        by_cases hs : lsnd l
        · have y1 : x1 = 0 ∧ Ra w1 := z1.elim (fun h => h.2) fun h => absurd hs h.1
          have y3 : x3 = 0 ∧ Rb w3 := z3.elim (fun h => h.2) fun h => absurd hs h.1
          have y5 : x5 = 0 ∧ Rc w5 := z5.elim (fun h => h.2) fun h => absurd hs h.1
          by_cases hc : chks ms = 0
          · have hk' : ok := hok.2 ⟨hs, hc⟩
            have y2 : x2 = 0 ∧ Ra w2 := z2.elim (fun h => h.2) fun h => absurd hk' h.1
            have y4 : x4 = 0 ∧ Rb w4 := z4.elim (fun h => h.2) fun h => absurd hk' h.1
            have y6 : x6 = 0 ∧ Rc w6 := z6.elim (fun h => h.2) fun h => absurd hk' h.1
            have g1 := y1.1
            have g2 := y2.1
            have g3 := y3.1
            have g4 := y4.1
            have g5 := y5.1
            have g6 := y6.1
            have d1 := ua _ _ y1.2 y2.2
            have d2 := ub _ _ y3.2 y4.2
            have d3 := uc _ _ y5.2 y6.2
            clear z1 z2 z3 z4 z5 z6 y1 y2 y3 y4 y5 y6
            cbv
            repeat (first | (refine vcIf.yes ?_ ?_; (focus (simp [hA.not, hA.eq, hA.lt, hA.le, hA.cond, hA.beq, hA.orb, hL.len, hL.slen, hL.sq, g1, g3, g5]; done)); cbv) | (refine vcIf.no ?_ ?_; (focus (simp [hA.not, hA.eq, hA.lt, hA.le, hA.cond, hA.beq, hA.orb, hL.len, hL.slen, hL.sq, g1, g3, g5]; done)); cbv) | fail)
            refine hcall _ _ _ _ _ (CallEv.same hall rfl ?_)
            rintro _ _ ⟨e, he, rfl, rfl⟩
            have he0 : e = 0 := by rw [he, hc]
            cbv
            repeat (first | (refine vcIf.yes ?_ ?_; (focus (simp [hA.not, hA.eq, hA.lt, hA.le, hA.cond, hA.beq, hA.orb, hL.len, hL.slen, hL.sq, he0]; done)); cbv) | (refine vcIf.no ?_ ?_; (focus (simp [hA.not, hA.eq, hA.lt, hA.le, hA.cond, hA.beq, hA.orb, hL.len, hL.slen, hL.sq, he0]; done)); cbv) | fail)
            repeat (first | (refine vcIf.yes ?_ ?_; (focus (simp [hA.not, hA.eq, hA.lt, hA.le, hA.cond, hA.beq, hA.orb, hL.len, hL.slen, hL.sq, g2, g4, g6, d1, d2, d3]; done)); cbv) | (refine vcIf.no ?_ ?_; (focus (simp [hA.not, hA.eq, hA.lt, hA.le, hA.cond, hA.beq, hA.orb, hL.len, hL.slen, hL.sq, g2, g4, g6, d1, d2, d3]; done)); cbv) | fail)
            refine hret _ (RetEv.ret eOk rfl ?_)
            show V.p (.bool (bcond true (ieq w5 w6) false)) = _
            rw [hA.cond, hA.eq, d3]; simp [cond]
          · have hk' : ¬ ok := fun c => hc (hok.1 c).2
            have g2 : x2 = 2 := z2.elim (fun h => absurd h.1 hk') fun h => h.2.1
            have g4 : x4 = 2 := z4.elim (fun h => absurd h.1 hk') fun h => h.2.1
            have g6 : x6 = 2 := z6.elim (fun h => absurd h.1 hk') fun h => h.2.1
            have g1 := y1.1
            have g3 := y3.1
            have g5 := y5.1
            clear z1 z2 z3 z4 z5 z6 y1 y3 y5
            cbv
            repeat (first | (refine vcIf.yes ?_ ?_; (focus (simp [hA.not, hA.eq, hA.lt, hA.le, hA.cond, hA.beq, hA.orb, hL.len, hL.slen, hL.sq, g1, g3, g5]; done)); cbv) | (refine vcIf.no ?_ ?_; (focus (simp [hA.not, hA.eq, hA.lt, hA.le, hA.cond, hA.beq, hA.orb, hL.len, hL.slen, hL.sq, g1, g3, g5]; done)); cbv) | fail)
            refine hcall _ _ _ _ _ (CallEv.same hall rfl ?_)
            rintro _ _ ⟨e, he, rfl, rfl⟩
            have he0 : ¬ e = 0 := by rw [he]; exact hc
            cbv
            repeat (first | (refine vcIf.yes ?_ ?_; (focus (simp [hA.not, hA.eq, hA.lt, hA.le, hA.cond, hA.beq, hA.orb, hL.len, hL.slen, hL.sq, cond, he0]; done)); cbv) | (refine vcIf.no ?_ ?_; (focus (simp [hA.not, hA.eq, hA.lt, hA.le, hA.cond, hA.beq, hA.orb, hL.len, hL.slen, hL.sq, cond, he0]; done)); cbv) | fail)
            repeat (first | (refine vcIf.yes ?_ ?_; (focus (simp [hA.not, hA.eq, hA.lt, hA.le, hA.cond, hA.beq, hA.orb, hL.len, hL.slen, hL.sq, g2, g4, g6]; done)); cbv) | (refine vcIf.no ?_ ?_; (focus (simp [hA.not, hA.eq, hA.lt, hA.le, hA.cond, hA.beq, hA.orb, hL.len, hL.slen, hL.sq, g2, g4, g6]; done)); cbv) | fail)
            refine hret _ (RetEv.ret eOk rfl ?_)
            show V.p (.bool (bcond true (ieq x6 x2) false)) = _
            rw [hA.cond, hA.eq, g6, g2]; simp [cond]
        · have hk' : ¬ ok := fun c => hs (hok.1 c).1
          have g1 : x1 = 2 := z1.elim (fun h => absurd h.1 hs) fun h => h.2.1
          have g3 : x3 = 2 := z3.elim (fun h => absurd h.1 hs) fun h => h.2.1
          have g5 : x5 = 2 := z5.elim (fun h => absurd h.1 hs) fun h => h.2.1
          have g2 : x2 = 2 := z2.elim (fun h => absurd h.1 hk') fun h => h.2.1
          have g4 : x4 = 2 := z4.elim (fun h => absurd h.1 hk') fun h => h.2.1
          have g6 : x6 = 2 := z6.elim (fun h => absurd h.1 hk') fun h => h.2.1
          clear z1 z2 z3 z4 z5 z6
          cbv
          repeat (first | (refine vcIf.yes ?_ ?_; (focus (simp [hA.not, hA.eq, hA.lt, hA.le, hA.cond, hA.beq, hA.orb, hL.len, hL.slen, hL.sq, g1, g3, g5]; done)); cbv) | (refine vcIf.no ?_ ?_; (focus (simp [hA.not, hA.eq, hA.lt, hA.le, hA.cond, hA.beq, hA.orb, hL.len, hL.slen, hL.sq, g1, g3, g5]; done)); cbv) | fail)
          repeat (first | (refine vcIf.yes ?_ ?_; (focus (simp [hA.not, hA.eq, hA.lt, hA.le, hA.cond, hA.beq, hA.orb, hL.len, hL.slen, hL.sq, g2, g4, g6]; done)); cbv) | (refine vcIf.no ?_ ?_; (focus (simp [hA.not, hA.eq, hA.lt, hA.le, hA.cond, hA.beq, hA.orb, hL.len, hL.slen, hL.sq, g2, g4, g6]; done)); cbv) | fail)
          refine hret _ (RetEv.ret eOk rfl ?_)
          show V.p (.bool (bcond true (ieq x6 x2) false)) = _
          rw [hA.cond, hA.eq, g6, g2]; simp [cond]
end Go.Proofs.Ytdoikpagilmplaa
