/- slices.Insert of a pair, in its own row or a new one. Conditions: on sizes. -/
import Derived.Test.YtdeolllpbflemaaLOn2
set_option maxRecDepth 100000
set_option maxHeartbeats 16000000
set_option linter.unusedSimpArgs false
set_option linter.unusedVariables false
namespace Go.Lx
open Go
open Go.Sx (NP Keeps Hp Keep0 TI TEnv TOk Kd)
theorem CallEv.overlapsS {B : Base} {P : Program} {TE : TEnv} (hE : TOk P TE) {f : FuncId} {fn : Func} {t e r : TypeId} {ti te : TI} {sz : Nat}
    (hf : P.funcs[f]? = some fn) (hname : (fn.name == "runtime.NumGoroutine") = false) (hb : fn.body.isNone = true) (hn : Extern.findNext fn = none) (he : Extern.find fn = some (Extern.SlicesOverlaps.overlaps #[t, t] #[r]))
    (hti : TE.get t = some ti) (hkd : ti.kd = .slice e) (hte : TE.get e = some te) (hsz : te.size = sz) {X : Nat → Bool} {st : St} {k : V → St → Prop} {i j o1 n1 o2 n2 : Nat} {c1 c2 : Option Nat} {T1 T2 : TypeId} {xs ys : List PV}
    (hi : st.own[i]? = some (.arr T1 sz xs)) (hj : st.own[j]? = some (.arr T2 sz ys)) (hij : i ≠ j) (h1 : 0 < n1) (h2 : 0 < n2)
    (hk : k (.p (.bool false)) st) : CallEv B P f [.vw i sz o1 n1 c1, .vw j sz o2 n2 c2] X st k := by
  subst hsz
  exact CallEv.overlaps hE hf hname hb hn he hti hkd hte hi hj hij h1 h2 hk
end Go.Lx
namespace Go.Proofs.Ytdeolllpbflemaa
open Go Go.Lx
open Go.Sx (vcIf)

theorem take_split (xs : List PV) (i n : Nat) (h : i ≤ n) : xs.take n = xs.take i ++ (xs.drop i).take (n - i) := by
  rw [← List.take_add]; congr 1; omega
/-- In the row itself, at the end. -/
theorem ins_end (xs zs : List PV) (K n : Nat) (y : PV) (hK : xs.length = K) (hn : n + 1 ≤ K) (hw : Wf 2 xs) (hy : y.wf 2) (hzs : zs = xs.take n ++ ([y] ++ xs.drop (n + 1))) :
    zs.length = K ∧ Wf 2 zs ∧ zs.take (n + 1) = xs.take n ++ y :: (xs.drop n).take (n - n) := by
  refine ⟨by rw [hzs]; simp; omega, by rw [hzs]; exact hw.take.append (Wf.append (Wf.one hy) hw.drop), ?_⟩
  rw [hzs, ← List.append_assoc, List.take_append_of_le_length (by simp; omega), List.take_of_length_le (by simp; omega)]; simp
/-- In a new row, at the end. -/
theorem ins_new (xs zs : List PV) (K n K' : Nat) (y z0 : PV) (hK : xs.length = K) (hn : n ≤ K) (hK' : n + 1 ≤ K') (hw : Wf 2 xs) (hy : y.wf 2) (hz : z0.wf 2) (hzs : zs = (xs.drop 0).take n ++ ([y] ++ List.replicate (K' - (n + 1)) z0)) :
    zs.length = K' ∧ Wf 2 zs ∧ zs.take (n + 1) = xs.take n ++ y :: (xs.drop n).take (n - n) := by
  rw [List.drop_zero] at hzs
  refine ⟨by rw [hzs]; simp; omega, by rw [hzs]; exact hw.take.append (Wf.append (Wf.one hy) fun x hx => by rw [List.eq_of_mem_replicate hx]; exact hz), ?_⟩
  rw [hzs, ← List.append_assoc, List.take_append_of_le_length (by simp; omega), List.take_of_length_le (by simp; omega)]; simp
/-- In a new row, between. -/
theorem ins_mid (xs zs us ws : List PV) (K n i K' m1 m2 : Nat) (y z0 : PV) (hK : xs.length = K) (hn : n ≤ K) (hi : i ≤ n) (hK' : n + 1 ≤ K') (hw : Wf 2 xs) (hy : y.wf 2) (hz : z0.wf 2)
    (hzs : zs = (xs.drop 0).take i ++ List.replicate (K' - i) z0) (hm1 : m1 = 1) (hus : us = zs.take i ++ ([y].take m1 ++ zs.drop (i + m1))) (hm2 : m2 = n - i) (hws : ws = us.take (i + 1) ++ (((xs.drop i).take (n - i)).take m2 ++ us.drop (i + 1 + m2))) :
    ws.length = K' ∧ Wf 2 ws ∧ ws.take (n + 1) = xs.take i ++ y :: (xs.drop i).take (n - i) := by
  subst hm1
  rw [List.drop_zero] at hzs
  have hzl : zs.length = K' := by rw [hzs]; simp; omega
  have hzw : Wf 2 zs := by rw [hzs]; exact hw.take.append fun x hx => by rw [List.eq_of_mem_replicate hx]; exact hz
  have hul : us.length = K' := by rw [hus]; simp; omega
  have huw : Wf 2 us := by rw [hus]; exact hzw.take.append (Wf.append (Wf.one hy).take hzw.drop)
  have hut : us.take (i + 1) = xs.take i ++ [y] := by
    rw [hus, ← List.append_assoc, List.take_append_of_le_length (by simp; omega), List.take_of_length_le (by simp; omega), hzs, List.take_append_of_le_length (by simp; omega), List.take_take, Nat.min_self]; rfl
  have hdl : ((xs.drop i).take (n - i)).take m2 = (xs.drop i).take (n - i) := List.take_of_length_le (by simp; omega)
  rw [hdl, hut] at hws
  refine ⟨by rw [hws]; simp; omega, by rw [hws]; exact Wf.append (hw.take.append (Wf.one hy)) (Wf.append hw.drop.take huw.drop), ?_⟩
  rw [hws, ← List.append_assoc, List.take_append_of_le_length (by simp; omega), List.take_of_length_le (by simp; omega)]; simp
/-- In the row itself, between. -/
theorem ins_room (xs us ws : List PV) (K n i m1 m2 : Nat) (y : PV) (hK : xs.length = K) (hn : n + 1 ≤ K) (hi : i ≤ n) (hw : Wf 2 xs) (hy : y.wf 2)
    (hm1 : m1 = n - i) (hus : us = xs.take (i + 1) ++ (((xs.drop i).take (n + 1 - i)).take m1 ++ xs.drop (i + 1 + m1))) (hm2 : m2 = 1) (hws : ws = us.take i ++ ([y].take m2 ++ us.drop (i + m2))) :
    ws.length = K ∧ Wf 2 ws ∧ ws.take (n + 1) = xs.take i ++ y :: (xs.drop i).take (n - i) := by
  subst hm2
  have hul : us.length = K := by rw [hus]; simp; omega
  have huw : Wf 2 us := by rw [hus]; exact hw.take.append (Wf.append hw.drop.take.take hw.drop)
  have hdl : ((xs.drop i).take (n + 1 - i)).take m1 = (xs.drop i).take (n - i) := by rw [List.take_take]; congr 1; omega
  rw [hdl] at hus
  have hut : us.take i = xs.take i := by rw [hus, List.take_append_of_le_length (by simp; omega), List.take_take, Nat.min_eq_left (by omega)]
  have hud : us.drop (i + 1) = (xs.drop i).take (n - i) ++ xs.drop (i + 1 + m1) := by
    rw [hus, List.drop_append_of_le_length (by simp; omega), List.drop_of_length_le (by simp; omega)]; rfl
  refine ⟨by rw [hws]; simp; omega, by rw [hws]; exact huw.take.append (Wf.append (Wf.one hy).take huw.drop), ?_⟩
  rw [hws, hut, hud]
  have e : xs.take i ++ ([y].take 1 ++ ((xs.drop i).take (n - i) ++ xs.drop (i + 1 + m1))) = (xs.take i ++ y :: (xs.drop i).take (n - i)) ++ xs.drop (i + 1 + m1) := by simp
  rw [e, List.take_append_of_le_length (by simp; omega), List.take_of_length_le (by simp; omega)]

theorem insP_spec (xs : List PV) (K n i : Nat) (hK : xs.length = K) (hn : n ≤ K) (hin : i ≤ n) (hw : Wf 2 xs) (hs : (n + 1) * 32 ≤ 140737488355328) (p : Pr) (vs : List PV) (hvs : vs = [p.v]) :
    FnL Try.prog 60 [.vw 0 2 0 n (some K), .p (.int .i64 (Int.ofNat i)), .vw 1 2 0 1 none] [.arr 45 2 xs, .arr 45 2 vs]
      fun v own => ∃ K' xs', v = .vw 0 2 0 (n + 1) (some K') ∧ own = [.arr 45 2 xs', .arr 45 2 vs] ∧ xs'.length = K' ∧ n + 1 ≤ K' ∧ Wf 2 xs' ∧ xs'.take (n + 1) = xs.take i ++ p.v :: (xs.drop i).take (n - i) := by
  have hvl : vs.length = 1 := by rw [hvs]; rfl
  have hvw : Wf 2 vs := by rw [hvs]; exact Wf.one p.wf
  obtain ⟨N, hN⟩ : ∃ N, N = n + 1 := ⟨_, rfl⟩
  rw [← hN] at hs ⊢
  obtain ⟨I, hI⟩ : ∃ I, I = i + 1 := ⟨_, rfl⟩
  refine fn_of_vc eOk fOk fo60 Try.func60 rfl rfl rfl fun B hB => ?_
  intro add sub mul quo rem band bor bxor bclr shl shr ieq ilt ile seq slt beq bnot orb bcond iwrap iof ssz hA cat sq sl imin imax smin smax len slen u8 hL op hop call hcall code hcode ret hret
  have hadd : add .i64 (iof n) (iof 1) = Int.ofNat N := by rw [hA.ofNat, hA.ofNat, hA.add, IntWalk.i64_in _ (by omega)]; show (n : Int) + 1 = (N : Int); omega
  have hadi : add .i64 (Int.ofNat i) (iof 1) = Int.ofNat I := by rw [hA.ofNat, hA.add, IntWalk.i64_in _ (by simp only [Int.ofNat_eq_natCast]; omega)]; show (i : Int) + 1 = (I : Int); omega
  cbv
  refine ⟨i, n, rfl, rfl, hin, by omega, (fun c h => by cases h; omega), fun o1 n1 ho1 hn1 => ?_⟩
  cbv
  refine vcIf.no (by rw [hA.ofNat, hA.eq]; rfl) ?_
  cbv
  by_cases he : i = n
  · refine vcIf.yes (by rw [hA.eq, hA.ofNat]; exact decide_eq_true (by rw [he]; rfl)) ?_
    cbv
    by_cases hroom : n + 1 ≤ K
    · refine hop _ _ _ _ (OpEv.appendIn eOk (ys := vs) rfl rfl rfl rfl rfl rfl rfl rfl rfl rfl (by rw [hvs]; rfl) hvw (by omega) (by omega) fun m1 ws hm1 hws => ?_)
      have key := ins_end xs ws K n p.v hK hroom hw p.wf (by rw [hws, hvl, hvs, Nat.zero_add])
      obtain ⟨g1, g2, g3⟩ := key
      cbv
      refine hret _ (RetEv.ret eOk rfl ⟨K, ws, ?_, rfl, g1, by omega, g2, ?_⟩)
      · rw [hN, ← hvl, ← hm1]; rfl
      · rw [hN, he]; exact g3
    · refine hop _ _ _ _ (OpEv.appendFull eOk (ys := vs) rfl rfl rfl rfl rfl rfl rfl rfl rfl (by rw [hvs]; rfl) rfl rfl rfl (Pr.wf ⟨[], []⟩) (by decide) hvw (by omega) (by unfold maxLen; omega) ?_ fun K' m1 ws hm1 hK1 hK2 hws => ?_)
      · show (n + vs.length) * 32 ≤ _
        omega
      have key := ins_new xs ws K n K' p.v _ hK hn (by omega) hw p.wf (Pr.wf ⟨[], []⟩) (by rw [hws, hvs, hm1, hvl]; rfl)
      obtain ⟨g1, g2, g3⟩ := key
      obtain rfl : m1 = N := by omega
      cbv
      refine hret _ (RetEv.convW (ConvW.pack [2, 1] hB rfl) (RetEv.ret eOk rfl ⟨K', ws, rfl, rfl, g1, hK1, g2, ?_⟩))
      rw [hN, he]; exact g3
  · refine vcIf.no (by rw [hA.eq, hA.ofNat]; exact decide_eq_false (fun c => he (Int.ofNat.inj c))) ?_
    cbv
    refine hop _ _ _ _ (OpEv.capOf eOk rfl rfl rfl rfl fun c hc => ?_)
    obtain rfl : c = K := by omega
    cbv
    by_cases hroom : c < N
    · have hsub : sub .i64 (Int.ofNat N) (Int.ofNat i) = ((N - i : Nat) : Int) := by rw [hA.sub, IntWalk.i64_in _ (by simp only [Int.ofNat_eq_natCast]; omega)]; simp only [Int.ofNat_eq_natCast]; omega
      refine vcIf.yes (by rw [hadd, hA.lt]; exact decide_eq_true (by simp only [Int.ofNat_eq_natCast]; omega)) ?_
      cbv
      refine ⟨0, i, rfl, rfl, Nat.zero_le _, by omega, (fun c h => by cases h; omega), fun o2 n2 ho2 hn2 => ?_⟩
      obtain rfl : 0 = o2 := by omega
      obtain rfl : i = n2 := by omega
      cbv
      refine hop _ _ _ _ (OpEv.appendZ eOk (m := N - i) (kk := .i64) rfl rfl rfl rfl rfl rfl rfl rfl ?_ rfl rfl rfl (Pr.wf ⟨[], []⟩) (by decide) (by omega) (by omega) (by unfold maxLen; omega) ?_ fun K' m1 zs hm1 hK1 hK2 hzs => ?_)
      · show some (V.p (PV.int .i64 (sub .i64 (add .i64 (iof n) (iof 1)) (Int.ofNat i)))) = _
        rw [hadd, hsub]
      · show (i + (N - i)) * 32 ≤ _
        omega
      have hzl : zs.length = K' := by rw [hzs]; simp; omega
      cbv
      have hmN : m1 = N := by omega
      refine ⟨i, m1, rfl, rfl, by omega, by omega, (fun c h => by cases h; omega), fun o3 n3 ho3 hn3 => ?_⟩
      obtain rfl : i = o3 := by omega
      cbv
      refine hop _ _ _ _ (OpEv.copy eOk (ys := vs) rfl rfl rfl rfl rfl rfl rfl rfl rfl (by rw [hvs]; rfl) hvw fun c1 us hc1 hus => ?_)
      have hc1' : c1 = 1 := by rw [hc1, hvl]; show min 1 n3 = 1; omega
      have hul : us.length = K' := by rw [hus, hc1']; simp; omega
      cbv
      refine hcode _ _ _ (CodeEv.drawT eOk fOk (by kernel_rfl) (Xof 3 [2]) (.rd 0 (.rd 1 (.rd 2 (.rd 3 (.rd 4 (.rd 5 (.so 6 (.so 7 (.acts (.cons 8 (.done) (.nil))))))))))) (by kernel_rfl) (by kernel_rfl) ?_)
      intro add2 sub2 mul2 quo2 rem2 band2 bor2 bxor2 bclr2 shl2 shr2 ieq2 ilt2 ile2 seq2 slt2 beq2 bnot2 orb2 bcond2 iwrap2 iof2 ssz2 hA2 cat2 sq2 sl2 imin2 imax2 smin2 smax2 len2 slen2 u82 hL2 op2 hop2 call2 hcall2 code2 hcode2 q2 hq2
      have hadi2 : add2 .i64 (Int.ofNat i) (iof 1) = Int.ofNat I := by rw [hA.ofNat, hA2.add, IntWalk.i64_in _ (by simp only [Int.ofNat_eq_natCast]; omega)]; show (i : Int) + 1 = (I : Int); omega
      cbv
      refine ⟨I, m1, hadi2, rfl, by omega, by omega, (fun c h => by cases h; omega), fun o4 n4 ho4 hn4 => ?_⟩
      obtain rfl : I = o4 := by omega
      cbv
      refine ⟨i, n, rfl, rfl, hin, by omega, (fun c h => by cases h; omega), fun o5 n5 ho5 hn5 => ?_⟩
      obtain rfl : i = o5 := by omega
      cbv
      refine hop2 _ _ _ _ (OpEv.copy eOk (ys := (xs.drop i).take n5) rfl rfl rfl rfl rfl rfl rfl rfl rfl rfl hw.drop.take fun c2 ws hc2 hws => ?_)
      have key := ins_mid xs zs us ws c n i K' c1 c2 p.v _ hK hn hin (by omega) hw p.wf (Pr.wf ⟨[], []⟩) (by rw [hzs]; rfl) hc1' (by rw [hus, hvs]) (by rw [hc2]; show min ((xs.drop i).take n5).length n4 = _; rw [List.length_take, List.length_drop]; omega) (by rw [hws, hn5, ← hI])
      obtain ⟨g1, g2, g3⟩ := key
      cbv
      refine hq2 _ ?_
      cbv
      exact hret _ (RetEv.convW (ConvW.pack [2, 1] hB rfl) (RetEv.ret eOk rfl ⟨K', ws, by rw [← hmN]; rfl, rfl, g1, by omega, g2, by rw [hN]; exact g3⟩))
    · refine vcIf.no (by rw [hadd, hA.lt]; exact decide_eq_false (by simp only [Int.ofNat_eq_natCast]; omega)) ?_
      cbv
      refine ⟨0, N, rfl, hadd, Nat.zero_le _, by omega, (fun c h => by cases h; omega), fun o2 n2 ho2 hn2 => ?_⟩
      obtain rfl : 0 = o2 := by omega
      obtain rfl : N = n2 := by omega
      cbv
      refine ⟨I, N, hadi, rfl, by omega, by omega, (fun c h => by cases h; omega), fun o3 n3 ho3 hn3 => ?_⟩
      obtain rfl : I = o3 := by omega
      cbv
      refine hcall _ _ _ _ _ (CallEv.overlapsS (i := 1) (j := 0) (sz := 2) eOk rfl rfl rfl rfl rfl rfl rfl rfl rfl rfl rfl (by decide) Nat.one_pos ?_ ?_)
      · omega
      cbv
      refine vcIf.yes (by rw [hA.not]; rfl) ?_
      cbv
      refine hcode _ _ _ (CodeEv.drawT eOk fOk (by kernel_rfl) (Xof 2 [0]) (.rd 0 (.rd 1 (.rd 2 (.rd 3 (.rd 4 (.rd 5 (.so 6 (.so 7 (.acts (.cons 8 (.done) (.nil))))))))))) (by kernel_rfl) (by kernel_rfl) ?_)
      intro add2 sub2 mul2 quo2 rem2 band2 bor2 bxor2 bclr2 shl2 shr2 ieq2 ilt2 ile2 seq2 slt2 beq2 bnot2 orb2 bcond2 iwrap2 iof2 ssz2 hA2 cat2 sq2 sl2 imin2 imax2 smin2 smax2 len2 slen2 u82 hL2 op2 hop2 call2 hcall2 code2 hcode2 q2 hq2
      have hadi2 : add2 .i64 (Int.ofNat i) (iof 1) = Int.ofNat I := by rw [hA.ofNat, hA2.add, IntWalk.i64_in _ (by simp only [Int.ofNat_eq_natCast]; omega)]; show (i : Int) + 1 = (I : Int); omega
      cbv
      refine ⟨I, N, hadi2, rfl, by omega, by omega, (fun c h => by cases h; omega), fun o4 n4 ho4 hn4 => ?_⟩
      obtain rfl : I = o4 := by omega
      cbv
      refine ⟨i, N, rfl, rfl, by omega, by omega, (fun c h => by cases h; omega), fun o5 n5 ho5 hn5 => ?_⟩
      obtain rfl : i = o5 := by omega
      cbv
      refine hop2 _ _ _ _ (OpEv.copy eOk (ys := (xs.drop i).take n5) rfl rfl rfl rfl rfl rfl rfl rfl rfl rfl hw.drop.take fun c1 us hc1 hus => ?_)
      have hc1' : c1 = n - i := by rw [hc1]; show min ((xs.drop i).take n5).length n4 = _; rw [List.length_take, List.length_drop]; omega
      have hul : us.length = c := by rw [hus]; simp; omega
      cbv
      refine hq2 _ ?_
      cbv
      refine ⟨i, N, rfl, rfl, by omega, by omega, (fun c h => by cases h; omega), fun o6 n6 ho6 hn6 => ?_⟩
      obtain rfl : i = o6 := by omega
      cbv
      refine hop _ _ _ _ (OpEv.copy eOk (ys := vs) rfl rfl rfl rfl rfl rfl rfl rfl rfl (by rw [hvs]; rfl) hvw fun c2 ws hc2 hws => ?_)
      have hc2' : c2 = 1 := by rw [hc2, hvl]; show min 1 n6 = 1; omega
      have key := ins_room xs us ws c n i c1 c2 p.v hK (by omega) hin hw p.wf hc1' (by rw [hus, hn5, hI, hN]) hc2' (by rw [hws, hvs])
      obtain ⟨g1, g2, g3⟩ := key
      cbv
      exact hret _ (RetEv.ret eOk rfl ⟨c, ws, rfl, rfl, g1, by omega, g2, by rw [hN]; exact g3⟩)
end Go.Proofs.Ytdeolllpbflemaa
