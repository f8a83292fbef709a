/- ProofPart. Conditions: on sizes. -/
import Derived.Test.YtdoikpagilmplaaLPc7
set_option maxRecDepth 100000
set_option maxHeartbeats 16000000
set_option linter.unusedSimpArgs false
set_option linter.unusedVariables false
namespace Go.Proofs.Ytdoikpagilmplaa
open Go Go.Lx
open Go.Sx (vcIf)

/-- What is found of the first K is what is found of all, as far as it goes. -/
def partOk (n m : Int) (K : Nat) : Prop := (0 ≤ n ∧ n < K → m = n) ∧ (¬ (0 ≤ n ∧ n < K) → m = -1)
theorem isFst.part {P P' : Nat → Prop} {N K : Nat} {n m : Int} (hP : ∀ j, j < K → (P' j ↔ P j)) (hK : K ≤ N) (hn : isFst P N n) (hm : isFst P' K m) : partOk n m K := by
  have hno : ¬ (0 ≤ n ∧ n < K) → ∀ j, j < K → ¬ P' j := fun h j hj c => by
    have c := (hP j hj).1 c
    rcases hn with ⟨_, b⟩ | ⟨i, a, b, c', d⟩
    · exact b j (by omega) c
    · have : ¬ i < K := fun e => h ⟨by rw [b]; simp only [Int.ofNat_eq_natCast]; omega, by rw [b]; simp only [Int.ofNat_eq_natCast]; omega⟩
      exact d j (by omega) c
  refine ⟨fun ⟨h1, h2⟩ => ?_, fun h => hm.uniq (isFst.none (hno h))⟩
  rcases hn with ⟨a, _⟩ | ⟨i, a, b, c, d⟩
  · omega
  · have hi : i < K := by rw [b] at h2; simp only [Int.ofNat_eq_natCast] at h2; omega
    rw [b]
    exact hm.uniq (isFst.at hi ((hP i hi).2 c) fun j hj e => d j hj ((hP j (by omega)).1 e))
theorem take_at {α : Type} {l : List α} {K j : Nat} (hj : j < K) : (l.take K)[j]? = l[j]? := List.getElem?_take_of_lt hj
theorem rbad_take {l : List Bt} {ds : List Dd} {K j : Nat} (hj : j < K) : rbad l (ds.take K) j ↔ rbad l ds j := by unfold rbad; rw [take_at hj]
theorem cbad_take {l : List Bt} {ds : List Dd} {K j : Nat} (hj : j < K) : cbad l (ds.take K) j ↔ cbad l ds j := by unfold cbad; rw [take_at hj]
theorem part_spec (n m : Int) (K : Nat) (h : partOk n m K) : FnL Try.prog 24 [.p (.int .i64 n), .p (.int .i64 m), .p (.int .i64 (Int.ofNat K))] [] fun v own => v = .p (.bool true) ∧ own = [] := by
  refine FnL.flat (R := fun v own => v = .p (.bool true)) ?_ (by rintro _ _ rfl; exact ⟨_, _, rfl, .refl _, rfl, rfl⟩)
  refine fn_of_vc eOk fOk fo24 Try.func24 rfl rfl rfl fun B hB => ?_
  have e1 : (Int.ofNat K) = (K : Int) := rfl
  intro add sub mul quo rem band bor bxor bclr shl shr ieq ilt ile seq slt beq bnot orb bcond iwrap iof ssz hA cat sq sl imin imax smin smax len slen u8 hL op hop call hcall code hcode ret hret
  cbv
  by_cases h1 : 0 ≤ n
  · refine vcIf.yes (by first | (simp [hA.not, hA.eq, hA.lt, hA.le, hA.cond, hA.beq, hA.orb, hL.len, hL.slen, hL.sq, h1]; done) | (simp only [h1]; simp [hA.not, hA.eq, hA.lt, hA.le, hA.cond, hA.beq, hA.orb, hL.len, hL.slen, hL.sq, h1]; done) | (simp [hA.not, hA.eq, hA.lt, hA.le, hA.cond, hA.beq, hA.orb, hL.len, hL.slen, hL.sq, h1]; omega) | (simp only [h1]; simp [hA.not, hA.eq, hA.lt, hA.le, hA.cond, hA.beq, hA.orb, hL.len, hL.slen, hL.sq, h1]; omega)) ?_
    cbv
    by_cases h2 : n < K
    · have hm := h.1 ⟨h1, h2⟩
      refine vcIf.yes (by rw [hA.cond, hA.lt]; simp [cond, h2]) ?_
      cbv
      refine hret _ (RetEv.ret eOk rfl ?_)
      show V.p (.bool (ieq m n)) = _
      rw [hA.eq, hm]; simp
    · have hm := h.2 fun c => h2 c.2
      refine vcIf.no (by rw [hA.cond, hA.lt]; simp [cond]; omega) ?_
      cbv
      refine hret _ (RetEv.ret eOk rfl ?_)
      show V.p (.bool (ieq m (-1))) = _
      rw [hA.eq, hm]; simp
  · have hm := h.2 fun c => h1 c.1
    refine vcIf.no (by first | (simp [hA.not, hA.eq, hA.lt, hA.le, hA.cond, hA.beq, hA.orb, hL.len, hL.slen, hL.sq, h1]; done) | (simp only [h1]; simp [hA.not, hA.eq, hA.lt, hA.le, hA.cond, hA.beq, hA.orb, hL.len, hL.slen, hL.sq, h1]; done) | (simp [hA.not, hA.eq, hA.lt, hA.le, hA.cond, hA.beq, hA.orb, hL.len, hL.slen, hL.sq, h1]; omega) | (simp only [h1]; simp [hA.not, hA.eq, hA.lt, hA.le, hA.cond, hA.beq, hA.orb, hL.len, hL.slen, hL.sq, h1]; omega)) ?_
    cbv
    refine hret _ (RetEv.ret eOk rfl ?_)
    show V.p (.bool (ieq m (-1))) = _
    rw [hA.eq, hm]; simp
theorem ddP_take (l : List Dd) (K : Nat) : ddP (l.take K) = (ddP l).take K := by unfold ddP; rw [List.map_take]
theorem cutK (c M : Nat) (hc : c ≤ 255) (hM : M < 281474976710656) : IntKind.i64.wrap (c : Int) = (c : Int) ∧ (Int.tmod (c : Int) ((M : Int) + 1)) = Int.ofNat (c % (M + 1)) ∧ c % (M + 1) ≤ M := by
  refine ⟨by rw [IntWalk.i64_in _ (by omega)], by rw [Int.tmod_eq_emod_of_nonneg (by omega)]; rfl, ?_⟩
  have := Nat.mod_lt c (show 0 < M + 1 by omega); omega

theorem proofPart (l : List Bt) (P Q : Nat) (hP : ∀ b ∈ l, b.ch.length ≤ P) (hl : l.length < 281474976710656) (hf : ∀ b ∈ l, b.fit) (hcl : ∀ b ∈ l, b.ch.length < 281474976710656) (ds : List Dd) (hQ : ∀ d ∈ ds, d.ch.length ≤ Q) (hsz : (l.length * P + Q + 1) * 32 ≤ 140737488355328) (hdl : ds.length < 281474976710656) (hdf : ∀ d ∈ ds, d.fit) (c : Nat) (hc : c ≤ 255) :
    FnL Try.prog 9 [.p (.sl (btP l)), .p (.sl (ddP ds)), .p (.int .u8 (c : Int))] [] fun z own => z = .p (.bool true) ∧ own = [] := by
  refine FnL.flat (R := fun z own => z = .p (.bool true)) ?_ (fun v own' h => ⟨_, _, h, .refl _, rfl, rfl⟩)
  obtain ⟨zs, hzs⟩ : ∃ zs, zs = btP l := ⟨_, rfl⟩
  obtain ⟨ys, hys⟩ : ∃ ys, ys = ddP ds := ⟨_, rfl⟩
  obtain ⟨N, hN⟩ : ∃ N, N = ds.length := ⟨_, rfl⟩
  have hyl : ys.length = N := by rw [hys, ddP_length, hN]
  have hcw : ∀ y : PV, y ∈ ys → y.cells.length = 8 := fun y hy => by
    rw [hys] at hy; obtain ⟨d, _, rfl⟩ := List.mem_map.1 hy; rfl
  rw [← hzs, ← hys]
  by_cases h : 100 < N
  · obtain ⟨us, hus⟩ : ∃ us, us = List.take 100 ys := ⟨_, rfl⟩
    have hU : us = ddP (ds.take 100) := by rw [hus, hys]; unfold ddP; rw [List.map_take]
    have hsub : ∀ d ∈ ds.take 100, d ∈ ds := fun d hd => List.mem_of_mem_take hd
    obtain ⟨M, hM⟩ : ∃ M, M = 100 := ⟨_, rfl⟩
    have hDl : (ds.take 100).length = M := by rw [List.length_take]; omega
    have hUl : us.length = M := by rw [hU, ddP_length, hDl]
    have hl100 : 100 ≤ ys.length := by omega
    have hrd1 := reads_spec l P Q hP hl hf (ds.take 100) (fun d hd => hQ d (hsub d hd)) hsz (by omega) (fun d hd => hdf d (hsub d hd)) zs us hzs hU
    have hcl1 := clear22_spec l hl hf hcl (ds.take 100) (by omega) (fun d hd => hdf d (hsub d hd)) zs us hzs hU
    obtain ⟨K, hK⟩ : ∃ K, K = c % (M + 1) := ⟨_, rfl⟩
    obtain ⟨q1, q2, q3⟩ := cutK c M hc (by omega)
    rw [← hK] at q2 q3
    have hrd2 := reads_spec l P Q hP hl hf (((ds.take 100)).take K) (fun d hd => hQ d (hsub d (List.mem_of_mem_take hd))) hsz (by rw [List.length_take]; omega) (fun d hd => hdf d (hsub d (List.mem_of_mem_take hd))) zs (List.take K us) hzs (by rw [hU]; exact (ddP_take _ _).symm)
    have hcl2 := clear22_spec l hl hf hcl (((ds.take 100)).take K) (by rw [List.length_take]; omega) (fun d hd => hdf d (hsub d (List.mem_of_mem_take hd))) zs (List.take K us) hzs (by rw [hU]; exact (ddP_take _ _).symm)
    have hlk : (((ds.take 100)).take K).length = K := by rw [List.length_take]; omega
    rw [hlk] at hrd2 hcl2
    rw [hDl] at hrd1 hcl1
    have hpr := fun n m (h1 : isFst (rbad l (ds.take 100)) M n) (h2 : isFst (rbad l (((ds.take 100)).take K)) K m) => h1.part (fun j hj => rbad_take hj) q3 h2
    have hpc := fun n m (h1 : isFst (cbad l (ds.take 100)) M n) (h2 : isFst (cbad l (((ds.take 100)).take K)) K m) => h1.part (fun j hj => cbad_take hj) q3 h2
    have hKU : K ≤ (us).length := by omega
    have hcwU : ∀ y : PV, y ∈ us → y.cells.length = 8 := fun y hy => by
      rw [hU] at hy; obtain ⟨d, _, rfl⟩ := List.mem_map.1 hy; rfl
    clear hsz
    refine fn_of_vc eOk fOk fo9 Try.func9 rfl rfl rfl fun B hB => ?_
    intro add sub mul quo rem band bor bxor bclr shl shr ieq ilt ile seq slt beq bnot orb bcond iwrap iof ssz hA cat sq sl imin imax smin smax len slen u8 hL op hop call hcall code hcode ret hret
    have hlen : len ys = Int.ofNat N := by rw [hL.len, hyl]; rfl
    cbv
    refine vcIf.yes (by first | (simp [hA.not, hA.eq, hA.lt, hA.le, hA.cond, hA.beq, hA.orb, hL.len, hL.slen, hL.sq, hlen, h]; done) | (simp only [hlen, h]; simp [hA.not, hA.eq, hA.lt, hA.le, hA.cond, hA.beq, hA.orb, hL.len, hL.slen, hL.sq, hlen, h]; done) | (simp [hA.not, hA.eq, hA.lt, hA.le, hA.cond, hA.beq, hA.orb, hL.len, hL.slen, hL.sq, hlen, h]; omega) | (simp only [hlen, h]; simp [hA.not, hA.eq, hA.lt, hA.le, hA.cond, hA.beq, hA.orb, hL.len, hL.slen, hL.sq, hlen, h]; omega)) ?_
    cbv
    refine ⟨0, 100, ys.length, rfl, rfl, rfl, Nat.zero_le _, hl100, Nat.le_refl _, hcw, fun u hu => ?_⟩
    obtain rfl : u = us := by rw [hus]; exact hu
    cbv
    have hlU : len u = Int.ofNat M := by rw [hL.len, hUl]; rfl
    have hmod : rem (iwrap .i64 (Int.ofNat c)) (add .i64 (len u) 1) = Int.ofNat K := by
      rw [show (Int.ofNat c) = (c : Int) from rfl, hlU, hA.wrap, q1, hA.add, IntWalk.i64_in _ (by simp only [Int.ofNat_eq_natCast]; omega), hA.rem]; exact q2
    have hne : ¬ add .i64 (len u) 1 = 0 := by
      rw [hlU, hA.add, IntWalk.i64_in _ (by simp only [Int.ofNat_eq_natCast]; omega)]; simp only [Int.ofNat_eq_natCast]; omega
    refine ⟨(), hne, ?_⟩
    cbv
    refine hcall _ _ _ _ _ (CallEv.same hrd1 rfl ?_)
    rintro _ _ ⟨n1, x1, hx1, rfl, rfl⟩
    cbv
    refine ⟨0, K, (u).length, rfl, hmod, rfl, Nat.zero_le _, hKU, Nat.le_refl _, hcwU, fun u2 hu2 => ?_⟩
    have hu2 : u2 = List.take K u := hu2
    cbv
    refine hcall _ _ _ _ _ (CallEv.same (by rw [hu2]; exact hrd2) rfl ?_)
    rintro _ _ ⟨n2, x2, hx2, rfl, rfl⟩
    cbv
    refine hcall _ _ _ _ _ (CallEv.same hcl1 rfl ?_)
    rintro _ _ ⟨n3, x3, hx3, rfl, rfl⟩
    cbv
    refine ⟨0, K, (u).length, rfl, hmod, rfl, Nat.zero_le _, hKU, Nat.le_refl _, hcwU, fun u3 hu3 => ?_⟩
    have hu3 : u3 = List.take K u := hu3
    cbv
    refine hcall _ _ _ _ _ (CallEv.same (by rw [hu3]; exact hcl2) rfl ?_)
    rintro _ _ ⟨n4, x4, hx4, rfl, rfl⟩
    cbv
    refine hcall _ _ _ _ _ (CallEv.same awake22_spec rfl ?_)
    rintro _ _ ⟨rfl, rfl⟩
    by_cases hs : lsnd l
    · have y1 : x1 = 0 ∧ isFst (rbad l _) M n1 := hx1.elim (fun h => h.2) fun h => absurd hs h.1
      have y2 : x2 = 0 ∧ isFst (rbad l _) K n2 := hx2.elim (fun h => h.2) fun h => absurd hs h.1
      have y3 : x3 = 0 ∧ isFst (cbad l _) M n3 := hx3.elim (fun h => h.2) fun h => absurd hs h.1
      have y4 : x4 = 0 ∧ isFst (cbad l _) K n4 := hx4.elim (fun h => h.2) fun h => absurd hs h.1
      have hp1 := part_spec n1 n2 K (hpr _ _ y1.2 y2.2)
      have hp2 := part_spec n3 n4 K (hpc _ _ y3.2 y4.2)
      have z1 := y1.1
      have z2 := y2.1
      have z3 := y3.1
      have z4 := y4.1
      clear hx1 hx2 hx3 hx4 y1 y2 y3 y4
      cbv
      repeat (first | (refine vcIf.yes ?_ ?_; (focus (simp [hA.not, hA.eq, hA.lt, hA.le, hA.cond, hA.beq, hA.orb, hL.len, hL.slen, hL.sq, z1, z2, z3, z4]; done)); cbv) | (refine vcIf.no ?_ ?_; (focus (simp [hA.not, hA.eq, hA.lt, hA.le, hA.cond, hA.beq, hA.orb, hL.len, hL.slen, hL.sq, z1, z2, z3, z4]; done)); cbv) | fail)
      rw [hmod]
      refine hcall _ _ _ _ _ (CallEv.same hp1 rfl ?_)
      rintro _ _ ⟨rfl, rfl⟩
      cbv
      repeat (first | (refine vcIf.yes ?_ ?_; (focus (simp [hA.not, hA.eq, hA.lt, hA.le, hA.cond, hA.beq, hA.orb, hL.len, hL.slen, hL.sq]; done)); cbv) | (refine vcIf.no ?_ ?_; (focus (simp [hA.not, hA.eq, hA.lt, hA.le, hA.cond, hA.beq, hA.orb, hL.len, hL.slen, hL.sq]; done)); cbv) | fail)
      refine hcall _ _ _ _ _ (CallEv.same hp2 rfl ?_)
      rintro _ _ ⟨rfl, rfl⟩
      cbv
      exact hret _ (RetEv.ret eOk rfl (by simp [hA.not, hA.eq, hA.lt, hA.le, hA.cond, hA.beq, hA.orb, hL.len, hL.slen, hL.sq, oneOf, z1]))
    · have y1 : x1 = 2 := hx1.elim (fun h => absurd h.1 hs) fun h => h.2.1
      have y2 : x2 = 2 := hx2.elim (fun h => absurd h.1 hs) fun h => h.2.1
      have y3 : x3 = 2 := hx3.elim (fun h => absurd h.1 hs) fun h => h.2.1
      have y4 : x4 = 2 := hx4.elim (fun h => absurd h.1 hs) fun h => h.2.1
      clear hx1 hx2 hx3 hx4
      cbv
      repeat (first | (refine vcIf.yes ?_ ?_; (focus (simp [hA.not, hA.eq, hA.lt, hA.le, hA.cond, hA.beq, hA.orb, hL.len, hL.slen, hL.sq, y1, y2, y3, y4]; done)); cbv) | (refine vcIf.no ?_ ?_; (focus (simp [hA.not, hA.eq, hA.lt, hA.le, hA.cond, hA.beq, hA.orb, hL.len, hL.slen, hL.sq, y1, y2, y3, y4]; done)); cbv) | fail)
      exact hret _ (RetEv.ret eOk rfl (by simp [hA.not, hA.eq, hA.lt, hA.le, hA.cond, hA.beq, hA.orb, hL.len, hL.slen, hL.sq, oneOf, y1]))
  · have hU := hys
    have hsub : ∀ d ∈ ds, d ∈ ds := fun d hd => hd
    obtain ⟨M, hM⟩ : ∃ M, M = N := ⟨_, rfl⟩
    have hDl : ds.length = M := by omega
    have hUl : ys.length = M := by omega
    have hrd1 := reads_spec l P Q hP hl hf ds (fun d hd => hQ d (hsub d hd)) hsz (by omega) (fun d hd => hdf d (hsub d hd)) zs ys hzs hU
    have hcl1 := clear22_spec l hl hf hcl ds (by omega) (fun d hd => hdf d (hsub d hd)) zs ys hzs hU
    obtain ⟨K, hK⟩ : ∃ K, K = c % (M + 1) := ⟨_, rfl⟩
    obtain ⟨q1, q2, q3⟩ := cutK c M hc (by omega)
    rw [← hK] at q2 q3
    have hrd2 := reads_spec l P Q hP hl hf ((ds).take K) (fun d hd => hQ d (hsub d (List.mem_of_mem_take hd))) hsz (by rw [List.length_take]; omega) (fun d hd => hdf d (hsub d (List.mem_of_mem_take hd))) zs (List.take K ys) hzs (by rw [hU]; exact (ddP_take _ _).symm)
    have hcl2 := clear22_spec l hl hf hcl ((ds).take K) (by rw [List.length_take]; omega) (fun d hd => hdf d (hsub d (List.mem_of_mem_take hd))) zs (List.take K ys) hzs (by rw [hU]; exact (ddP_take _ _).symm)
    have hlk : ((ds).take K).length = K := by rw [List.length_take]; omega
    rw [hlk] at hrd2 hcl2
    rw [hDl] at hrd1 hcl1
    have hpr := fun n m (h1 : isFst (rbad l ds) M n) (h2 : isFst (rbad l ((ds).take K)) K m) => h1.part (fun j hj => rbad_take hj) q3 h2
    have hpc := fun n m (h1 : isFst (cbad l ds) M n) (h2 : isFst (cbad l ((ds).take K)) K m) => h1.part (fun j hj => cbad_take hj) q3 h2
    have hKU : K ≤ (ys).length := by omega
    have hcwU : ∀ y : PV, y ∈ ys → y.cells.length = 8 := fun y hy => by
      rw [hU] at hy; obtain ⟨d, _, rfl⟩ := List.mem_map.1 hy; rfl
    clear hsz
    refine fn_of_vc eOk fOk fo9 Try.func9 rfl rfl rfl fun B hB => ?_
    intro add sub mul quo rem band bor bxor bclr shl shr ieq ilt ile seq slt beq bnot orb bcond iwrap iof ssz hA cat sq sl imin imax smin smax len slen u8 hL op hop call hcall code hcode ret hret
    have hlen : len ys = Int.ofNat N := by rw [hL.len, hyl]; rfl
    cbv
    refine vcIf.no (by first | (simp [hA.not, hA.eq, hA.lt, hA.le, hA.cond, hA.beq, hA.orb, hL.len, hL.slen, hL.sq, hlen, h]; done) | (simp only [hlen, h]; simp [hA.not, hA.eq, hA.lt, hA.le, hA.cond, hA.beq, hA.orb, hL.len, hL.slen, hL.sq, hlen, h]; done) | (simp [hA.not, hA.eq, hA.lt, hA.le, hA.cond, hA.beq, hA.orb, hL.len, hL.slen, hL.sq, hlen, h]; omega) | (simp only [hlen, h]; simp [hA.not, hA.eq, hA.lt, hA.le, hA.cond, hA.beq, hA.orb, hL.len, hL.slen, hL.sq, hlen, h]; omega)) ?_
    cbv
    have hlU : len ys = Int.ofNat M := by rw [hL.len, hUl]; rfl
    have hmod : rem (iwrap .i64 (Int.ofNat c)) (add .i64 (len ys) 1) = Int.ofNat K := by
      rw [show (Int.ofNat c) = (c : Int) from rfl, hlU, hA.wrap, q1, hA.add, IntWalk.i64_in _ (by simp only [Int.ofNat_eq_natCast]; omega), hA.rem]; exact q2
    have hne : ¬ add .i64 (len ys) 1 = 0 := by
      rw [hlU, hA.add, IntWalk.i64_in _ (by simp only [Int.ofNat_eq_natCast]; omega)]; simp only [Int.ofNat_eq_natCast]; omega
    refine ⟨(), hne, ?_⟩
    cbv
    refine hcall _ _ _ _ _ (CallEv.same hrd1 rfl ?_)
    rintro _ _ ⟨n1, x1, hx1, rfl, rfl⟩
    cbv
    refine ⟨0, K, (ys).length, rfl, hmod, rfl, Nat.zero_le _, hKU, Nat.le_refl _, hcwU, fun u2 hu2 => ?_⟩
    have hu2 : u2 = List.take K ys := hu2
    cbv
    refine hcall _ _ _ _ _ (CallEv.same (by rw [hu2]; exact hrd2) rfl ?_)
    rintro _ _ ⟨n2, x2, hx2, rfl, rfl⟩
    cbv
    refine hcall _ _ _ _ _ (CallEv.same hcl1 rfl ?_)
    rintro _ _ ⟨n3, x3, hx3, rfl, rfl⟩
    cbv
    refine ⟨0, K, (ys).length, rfl, hmod, rfl, Nat.zero_le _, hKU, Nat.le_refl _, hcwU, fun u3 hu3 => ?_⟩
    have hu3 : u3 = List.take K ys := hu3
    cbv
    refine hcall _ _ _ _ _ (CallEv.same (by rw [hu3]; exact hcl2) rfl ?_)
    rintro _ _ ⟨n4, x4, hx4, rfl, rfl⟩
    cbv
    refine hcall _ _ _ _ _ (CallEv.same awake22_spec rfl ?_)
    rintro _ _ ⟨rfl, rfl⟩
    by_cases hs : lsnd l
    · have y1 : x1 = 0 ∧ isFst (rbad l _) M n1 := hx1.elim (fun h => h.2) fun h => absurd hs h.1
      have y2 : x2 = 0 ∧ isFst (rbad l _) K n2 := hx2.elim (fun h => h.2) fun h => absurd hs h.1
      have y3 : x3 = 0 ∧ isFst (cbad l _) M n3 := hx3.elim (fun h => h.2) fun h => absurd hs h.1
      have y4 : x4 = 0 ∧ isFst (cbad l _) K n4 := hx4.elim (fun h => h.2) fun h => absurd hs h.1
      have hp1 := part_spec n1 n2 K (hpr _ _ y1.2 y2.2)
      have hp2 := part_spec n3 n4 K (hpc _ _ y3.2 y4.2)
      have z1 := y1.1
      have z2 := y2.1
      have z3 := y3.1
      have z4 := y4.1
      clear hx1 hx2 hx3 hx4 y1 y2 y3 y4
      cbv
      repeat (first | (refine vcIf.yes ?_ ?_; (focus (simp [hA.not, hA.eq, hA.lt, hA.le, hA.cond, hA.beq, hA.orb, hL.len, hL.slen, hL.sq, z1, z2, z3, z4]; done)); cbv) | (refine vcIf.no ?_ ?_; (focus (simp [hA.not, hA.eq, hA.lt, hA.le, hA.cond, hA.beq, hA.orb, hL.len, hL.slen, hL.sq, z1, z2, z3, z4]; done)); cbv) | fail)
      rw [hmod]
      refine hcall _ _ _ _ _ (CallEv.same hp1 rfl ?_)
      rintro _ _ ⟨rfl, rfl⟩
      cbv
      repeat (first | (refine vcIf.yes ?_ ?_; (focus (simp [hA.not, hA.eq, hA.lt, hA.le, hA.cond, hA.beq, hA.orb, hL.len, hL.slen, hL.sq]; done)); cbv) | (refine vcIf.no ?_ ?_; (focus (simp [hA.not, hA.eq, hA.lt, hA.le, hA.cond, hA.beq, hA.orb, hL.len, hL.slen, hL.sq]; done)); cbv) | fail)
      refine hcall _ _ _ _ _ (CallEv.same hp2 rfl ?_)
      rintro _ _ ⟨rfl, rfl⟩
      cbv
      exact hret _ (RetEv.ret eOk rfl (by simp [hA.not, hA.eq, hA.lt, hA.le, hA.cond, hA.beq, hA.orb, hL.len, hL.slen, hL.sq, oneOf, z1]))
    · have y1 : x1 = 2 := hx1.elim (fun h => absurd h.1 hs) fun h => h.2.1
      have y2 : x2 = 2 := hx2.elim (fun h => absurd h.1 hs) fun h => h.2.1
      have y3 : x3 = 2 := hx3.elim (fun h => absurd h.1 hs) fun h => h.2.1
      have y4 : x4 = 2 := hx4.elim (fun h => absurd h.1 hs) fun h => h.2.1
      clear hx1 hx2 hx3 hx4
      cbv
      repeat (first | (refine vcIf.yes ?_ ?_; (focus (simp [hA.not, hA.eq, hA.lt, hA.le, hA.cond, hA.beq, hA.orb, hL.len, hL.slen, hL.sq, y1, y2, y3, y4]; done)); cbv) | (refine vcIf.no ?_ ?_; (focus (simp [hA.not, hA.eq, hA.lt, hA.le, hA.cond, hA.beq, hA.orb, hL.len, hL.slen, hL.sq, y1, y2, y3, y4]; done)); cbv) | fail)
      exact hret _ (RetEv.ret eOk rfl (by simp [hA.not, hA.eq, hA.lt, hA.le, hA.cond, hA.beq, hA.orb, hL.len, hL.slen, hL.sq, oneOf, y1]))
end Go.Proofs.Ytdoikpagilmplaa
