/- The table: the least identity. -/
import Derived.Test.YtldlolpbnfgdeaaKTabC
set_option linter.unusedSimpArgs false
set_option linter.unusedVariables false
namespace Go.Proofs.Ytldlolpbnfgdeaa.AA
open Go Go.RowKit Go.Proofs.Ytldlolpbnfgdeaa
set_option maxRecDepth 100000
set_option maxHeartbeats 4000000
attribute [local irreducible] Tr.set
theorem MR.lookV {κ ν : Type} [DecidableEq κ] {sh : ESh} {kc : κ → AV} {vc : ν → AV} (hk : Keyed sh kc) {H : AHeap} {r : Nat} {f : κ → Option ν} (h : MR kc vc H r f) (k : κ) {zero : AV} {z : ν} (hz : vc z = zero) : lookA sh zero false H r (kc k) = some (vc ((f k).getD z), H) := by
  cases hf : f k with
  | none => rw [h.look_no hk hf, ← hz]; rfl
  | some v => rw [h.look_yes hk hf]; rfl
/-- k identities: those of O were given back; below 4 + i they were taken again. -/
def gM (k : Int) (O : Int → Bool) (i : Int) : TG := fun j => if 4 ≤ j ∧ j < k + 4 then (if O j then (if j < 4 + i then some (2, j - 4) else none) else some (1, j - 4)) else none
def oM (O : Int → Bool) : Int → Option Int := fun j => if O j then some 1 else none
theorem gM_new {k : Int} {O : Int → Bool} : gM 0 O 0 = fun _ => none := by
  funext j
  unfold gM
  rw [if_neg (by omega)]
theorem gM_take {k : Int} (h0 : 0 ≤ k) (h1 : k < 1000) : tk (gM k (fun _ => false) 0) (1, k) = (4 + k, gM (k + 1) (fun _ => false) 0) := by
  have := tk_at (g := gM k (fun _ => false) 0) (p := (1, k)) (i := 4 + k) (fun j => by
    unfold gM
    split
    · intro e
      simp at e
      omega
    · simp) ⟨by omega, by omega, by unfold gM; rw [if_neg (by omega)], fun j h1 h2 => by unfold gM; rw [if_pos (by omega)]; simp⟩
  rw [this]
  congr 1
  funext j
  by_cases hj : j = 4 + k
  · rw [hj, fset_same]
    unfold gM
    rw [if_pos (by omega)]
    simp; omega
  · rw [fset_ne hj]
    unfold gM
    by_cases h : 4 ≤ j ∧ j < k + 4
    · have h' : 4 ≤ j ∧ j < k + 1 + 4 := by omega
      rw [if_pos h, if_pos h']
    · have h' : ¬ (4 ≤ j ∧ j < k + 1 + 4) := by omega
      rw [if_neg h, if_neg h']
theorem gM_give {k x : Int} {O : Int → Bool} (h0 : 4 ≤ x) (h1 : x < k + 4) : (gM k O 0 x).isSome = !O x ∧ fset (gM k O 0) x none = gM k (fset O x true) 0 := by
  refine ⟨?_, ?_⟩
  · unfold gM
    rw [if_pos ⟨h0, h1⟩, if_neg (show ¬ x < 4 + 0 by omega)]
    cases O x <;> rfl
  · funext j
    by_cases hj : j = x
    · rw [hj, fset_same]
      unfold gM
      rw [if_pos ⟨h0, h1⟩, fset_same, if_pos rfl, if_neg (by omega)]
    · rw [fset_ne hj]
      unfold gM
      rw [fset_ne hj]
theorem oM_set {O : Int → Bool} {x : Int} : fset (oM O) x (some 1) = oM (fset O x true) := by
  funext j
  by_cases hj : j = x
  · rw [hj, fset_same]; unfold oM; rw [fset_same]; rfl
  · rw [fset_ne hj]; unfold oM; rw [fset_ne hj]
theorem gM_again {k i : Int} {O : Int → Bool} (h0 : 0 ≤ i) (h1 : i < k) (h2 : k < 1000) (ho : O (4 + i) = true) : tk (gM k O i) (2, i) = (4 + i, gM k O (i + 1)) := by
  have := tk_at (g := gM k O i) (p := (2, i)) (i := 4 + i) (fun j => by
    unfold gM
    split
    · split
      · split
        · intro e; simp at e; omega
        · simp
      · intro e; simp at e
    · simp) ⟨by omega, by omega, by unfold gM; rw [if_pos (by omega), ho, if_pos rfl, if_neg (by omega)], fun j h1 h2 => by
        have c1 : 4 ≤ j ∧ j < k + 4 := by omega
        have c2 : j < 4 + i := by omega
        unfold gM
        rw [if_pos c1]
        split
        · first | (rw [if_pos c2]; simp) | simp
        · simp⟩
  rw [this]
  congr 1
  funext j
  by_cases hj : j = 4 + i
  · rw [hj, fset_same]
    unfold gM
    rw [if_pos (by omega), ho, if_pos rfl, if_pos (by omega)]
    congr 2; omega
  · rw [fset_ne hj]
    unfold gM
    by_cases h : j < 4 + i
    · rw [if_pos h, if_pos (show j < 4 + (i + 1) by omega)]
    · rw [if_neg h, if_neg (show ¬ j < 4 + (i + 1) by omega)]
theorem gM_pass {k i : Int} {O : Int → Bool} (ho : O (4 + i) = false) : gM k O (i + 1) = gM k O i := by
  funext j
  unfold gM
  by_cases hj : j = 4 + i
  · rw [hj, ho]; rfl
  · by_cases h : j < 4 + i
    · rw [if_pos h, if_pos (show j < 4 + (i + 1) by omega)]
    · rw [if_neg h, if_neg (show ¬ j < 4 + (i + 1) by omega)]
theorem gM_some {k j : Int} {O : Int → Bool} (h1 : 4 ≤ j) (h2 : j < k + 4) : (gM k O k j).isSome = true := by
  unfold gM
  rw [if_pos ⟨h1, h2⟩]
  split
  · rw [if_pos (by omega)]; rfl
  · rfl
theorem gM_ids {k : Nat} {O : Int → Bool} (h : k < 1000) : (idsI (gM k O k)).length = k := by
  have := idsI_eq (g := gM k O k) (l := (List.range k).map fun i : Nat => (i : Int) + 4) (by
    rw [List.pairwise_map]
    exact List.pairwise_lt_range.imp fun h => by omega) fun j => by
      rw [List.mem_map]
      constructor
      · rintro ⟨i, hi, rfl⟩
        rw [List.mem_range] at hi
        exact ⟨by omega, by omega, gM_some (by omega) (by omega)⟩
      · rintro ⟨h0, h1, h2⟩
        have hj : 4 ≤ j ∧ j < k + 4 := by
          unfold gM at h2
          by_cases hc : 4 ≤ j ∧ j < (k : Int) + 4
          · exact hc
          · rw [if_neg hc] at h2; cases h2
        refine ⟨(j - 4).toNat, by rw [List.mem_range]; omega, by omega⟩
  rw [this]
  simp
theorem gM_last {k : Int} {O : Int → Bool} (h0 : 0 ≤ k) (h : k < 1000) : (tk (gM k O k) (3, 0)).1 = 4 + k := by
  rw [tk_at (g := gM k O k) (p := (3, 0)) (i := 4 + k) (fun j => by
    unfold gM
    split
    · split
      · split
        · intro e; simp at e
        · simp
      · intro e; simp at e
    · simp) ⟨by omega, by omega, by unfold gM; rw [if_neg (by omega)], fun j h1 h2 hn => by
      have := gM_some (k := k) (O := O) h1 (by omega)
      rw [hn] at this; cases this⟩]
/-- TableLeast. -/
theorem c_least {H : AHeap} {v : AV} {l : List Int} (hs : Sv H v l.length (ivs l)) (an : Int) : CW MT 14 [.int .i64 an, v] H fun u _ => u = .bool true := by
  refine CW_of (fn := af14) rfl ?_
  obtain ⟨a, s0, cl, rfl, hrd⟩ := hs
  unfold af14
  simp -implicitDefEqProofs only [↓WP_seq, ↓WP_skip, ↓WP_region, ↓WP_dregion, ↓WP_cond, ↓WP_block, ↓WP_exit, ↓WP_ret, ↓OW_nil, ↓OW_cons, ↓DW_nil, ↓DW_cons, ↓XW_call, XW, exA, KO_eq, KD_eq, OptK_some, EvK_some, GW2_true, GW2_false, KS_normal, KS_ret, KS_exit, KB_normal, KB_ret, KB_exit, CP2_bool, RP_ret, RP_normal, putA_some, putA_none, ev_t, ev_c, evs, evo, wantA, initA, resA, Tr.get_set, vl, chkOk, cond_true, cond_false, Nat.add_zero, Nat.mul_one, Nat.one_mul, Nat.zero_add, Nat.zero_mul, aggOf, pInt, binA, unA, intA, beq_true, beq_false, Bool.not_true, Bool.not_false, Bool.not_eq_true, and_self, and_true, true_and, ↓reduceIte, reduceIte, Nat.reduceEqDiff, Nat.succ_ne_self, Nat.reduceAdd, Nat.reduceMul, Nat.reduceSub, Nat.reduceBEq, Nat.reduceLT, Nat.reduceLeDiff, Int.cast_ofNat_Int, Int.reduceToNat, Int.reduceLT, Int.reduceLE, Int.reduceGE, Int.reduceGT, Int.reduceEq, Int.reduceNe, Int.reduceAdd, Int.reduceSub, Int.reduceNeg, decide_true, decide_false, Int.toNat_natCast, reduceCtorEq, List.nil_append, List.cons_append, AV.boxy, AV.cells, List.length_cons, List.length_nil, Nat.beq_refl, AOp.cl, ↓OW_guard, ↓DW_guard, KDW_0, KDW_1, KDW_2, OWskip_eq, DWskip_eq, fillA, setAt, DChk, DAt, stepA, ble_dec, beq_dec, Bool.and_self, Bool.and_true, Bool.true_and, Bool.and_false, Bool.false_and, List.take_succ_cons, List.take_zero, List.drop_succ_cons, List.drop_zero, List.take_nil, List.drop_nil, List.append_nil, eqAV, eqAVL, BEq.rfl, eqA, eqD, sameS, Option.map, Option.isNone, addrA, wrap64, gt_iff_lt, ge_iff_le, Int.lt_irrefl, Int.le_refl]
  refine CW.mono (c_New H) ?_
  rintro v H1 ⟨b, r1, r2, rfl, t1, hb, hr1, hr2, ev1⟩
  have s1 : Sm H H1 := Chg.of_evo ev1
  have hnd : ∀ z, z < H.next → ¬ D2 r1 r2 z := fun z hz => by rintro (h | h) <;> omega
  have step : ∀ {G G' : AHeap}, Sm H G → Evo (D2 r1 r2) G G' → Sm H G' := fun hG he => Sm.of (Nat.le_trans hG.1 he.1) fun z hz => by rw [he.2 z (by have := hG.1; omega) (hnd z hz), hG.gt hz]
  simp -implicitDefEqProofs only [↓WP_seq, ↓WP_skip, ↓WP_region, ↓WP_dregion, ↓WP_cond, ↓WP_block, ↓WP_exit, ↓WP_ret, ↓OW_nil, ↓OW_cons, ↓DW_nil, ↓DW_cons, ↓XW_call, XW, exA, KO_eq, KD_eq, OptK_some, EvK_some, GW2_true, GW2_false, KS_normal, KS_ret, KS_exit, KB_normal, KB_ret, KB_exit, CP2_bool, RP_ret, RP_normal, putA_some, putA_none, ev_t, ev_c, evs, evo, wantA, initA, resA, Tr.get_set, vl, chkOk, cond_true, cond_false, Nat.add_zero, Nat.mul_one, Nat.one_mul, Nat.zero_add, Nat.zero_mul, aggOf, pInt, binA, unA, intA, beq_true, beq_false, Bool.not_true, Bool.not_false, Bool.not_eq_true, and_self, and_true, true_and, ↓reduceIte, reduceIte, Nat.reduceEqDiff, Nat.succ_ne_self, Nat.reduceAdd, Nat.reduceMul, Nat.reduceSub, Nat.reduceBEq, Nat.reduceLT, Nat.reduceLeDiff, Int.cast_ofNat_Int, Int.reduceToNat, Int.reduceLT, Int.reduceLE, Int.reduceGE, Int.reduceGT, Int.reduceEq, Int.reduceNe, Int.reduceAdd, Int.reduceSub, Int.reduceNeg, decide_true, decide_false, Int.toNat_natCast, reduceCtorEq, List.nil_append, List.cons_append, AV.boxy, AV.cells, List.length_cons, List.length_nil, Nat.beq_refl, AOp.cl, ↓OW_guard, ↓DW_guard, KDW_0, KDW_1, KDW_2, OWskip_eq, DWskip_eq, fillA, setAt, DChk, DAt, stepA, ble_dec, beq_dec, Bool.and_self, Bool.and_true, Bool.true_and, Bool.and_false, Bool.false_and, List.take_succ_cons, List.take_zero, List.drop_succ_cons, List.drop_zero, List.take_nil, List.drop_nil, List.append_nil, eqAV, eqAVL, BEq.rfl, eqA, eqD, sameS, Option.map, Option.isNone, addrA, wrap64, gt_iff_lt, ge_iff_le, Int.lt_irrefl, Int.le_refl]
  refine CW.mono (c_within an 0 40 _ (by omega) (by omega) (by omega)) ?_
  rintro u H' ⟨⟨m, rfl, m0, m1⟩, hH⟩
  have hH2 := hH.symm
  subst hH2
  obtain ⟨k, hk⟩ : ∃ k : Nat, 1 + m = (k : Int) := ⟨(1 + m).toNat, by omega⟩
  have hk1 : 1 ≤ k ∧ k ≤ 41 := by omega
  have hwk : IntKind.i64.wrap (1 + m) = (k : Int) := by rw [wrap64 (by omega) (by omega), hk]
  simp -implicitDefEqProofs only [hwk, Bool.false_eq_true, ↓WP_seq, ↓WP_skip, ↓WP_region, ↓WP_dregion, ↓WP_cond, ↓WP_block, ↓WP_exit, ↓WP_ret, ↓OW_nil, ↓OW_cons, ↓DW_nil, ↓DW_cons, ↓XW_call, XW, exA, KO_eq, KD_eq, OptK_some, EvK_some, GW2_true, GW2_false, KS_normal, KS_ret, KS_exit, KB_normal, KB_ret, KB_exit, CP2_bool, RP_ret, RP_normal, putA_some, putA_none, ev_t, ev_c, evs, evo, wantA, initA, resA, Tr.get_set, vl, chkOk, cond_true, cond_false, Nat.add_zero, Nat.mul_one, Nat.one_mul, Nat.zero_add, Nat.zero_mul, aggOf, pInt, binA, unA, intA, beq_true, beq_false, Bool.not_true, Bool.not_false, Bool.not_eq_true, and_self, and_true, true_and, ↓reduceIte, reduceIte, Nat.reduceEqDiff, Nat.succ_ne_self, Nat.reduceAdd, Nat.reduceMul, Nat.reduceSub, Nat.reduceBEq, Nat.reduceLT, Nat.reduceLeDiff, Int.cast_ofNat_Int, Int.reduceToNat, Int.reduceLT, Int.reduceLE, Int.reduceGE, Int.reduceGT, Int.reduceEq, Int.reduceNe, Int.reduceAdd, Int.reduceSub, Int.reduceNeg, decide_true, decide_false, Int.toNat_natCast, reduceCtorEq, List.nil_append, List.cons_append, AV.boxy, AV.cells, List.length_cons, List.length_nil, Nat.beq_refl, AOp.cl, ↓OW_guard, ↓DW_guard, KDW_0, KDW_1, KDW_2, OWskip_eq, DWskip_eq, fillA, setAt, DChk, DAt, stepA, ble_dec, beq_dec, Bool.and_self, Bool.and_true, Bool.true_and, Bool.and_false, Bool.false_and, List.take_succ_cons, List.take_zero, List.drop_succ_cons, List.drop_zero, List.take_nil, List.drop_nil, List.append_nil, eqAV, eqAVL, BEq.rfl, eqA, eqD, sameS, Option.map, Option.isNone, addrA, wrap64, gt_iff_lt, ge_iff_le, Int.lt_irrefl, Int.le_refl]
  rw [← gM_new (k := 0) (O := fun _ => false)] at t1
  -- as many are taken
  refine WP_mono (Q := fun ex fr H' => ex = .exit 0 ∧ fr.get 1 = some (.slice a s0 l.length cl) ∧ fr.get 5 = some (.ptr (some (b, 0))) ∧ fr.get 6 = some (.int .i64 k) ∧ Chg H H' none ∧ TabR H' b r1 r2 (gM k (fun _ => false) 0)) ?_ (WP_loop (fun n fr H' => ∃ i : Nat, n = k - i ∧ i ≤ k ∧ fr.get 1 = some (.slice a s0 l.length cl) ∧ fr.get 5 = some (.ptr (some (b, 0))) ∧ fr.get 6 = some (.int .i64 k) ∧ fr.get 7 = some (.int .i64 i) ∧ Chg H H' none ∧ TabR H' b r1 r2 (gM i (fun _ => false) 0)) k ?_ ?_)
  rotate_left
  · refine ⟨0, rfl, by omega, ?_⟩
    simp -implicitDefEqProofs only [↓WP_seq, ↓WP_skip, ↓WP_region, ↓WP_dregion, ↓WP_cond, ↓WP_block, ↓WP_exit, ↓WP_ret, ↓OW_nil, ↓OW_cons, ↓DW_nil, ↓DW_cons, ↓XW_call, XW, exA, KO_eq, KD_eq, OptK_some, EvK_some, GW2_true, GW2_false, KS_normal, KS_ret, KS_exit, KB_normal, KB_ret, KB_exit, CP2_bool, RP_ret, RP_normal, putA_some, putA_none, ev_t, ev_c, evs, evo, wantA, initA, resA, Tr.get_set, vl, chkOk, cond_true, cond_false, Nat.add_zero, Nat.mul_one, Nat.one_mul, Nat.zero_add, Nat.zero_mul, aggOf, pInt, binA, unA, intA, beq_true, beq_false, Bool.not_true, Bool.not_false, Bool.not_eq_true, and_self, and_true, true_and, ↓reduceIte, reduceIte, Nat.reduceEqDiff, Nat.succ_ne_self, Nat.reduceAdd, Nat.reduceMul, Nat.reduceSub, Nat.reduceBEq, Nat.reduceLT, Nat.reduceLeDiff, Int.cast_ofNat_Int, Int.reduceToNat, Int.reduceLT, Int.reduceLE, Int.reduceGE, Int.reduceGT, Int.reduceEq, Int.reduceNe, Int.reduceAdd, Int.reduceSub, Int.reduceNeg, decide_true, decide_false, Int.toNat_natCast, reduceCtorEq, List.nil_append, List.cons_append, AV.boxy, AV.cells, List.length_cons, List.length_nil, Nat.beq_refl, AOp.cl, ↓OW_guard, ↓DW_guard, KDW_0, KDW_1, KDW_2, OWskip_eq, DWskip_eq, fillA, setAt, DChk, DAt, stepA, ble_dec, beq_dec, Bool.and_self, Bool.and_true, Bool.true_and, Bool.and_false, Bool.false_and, List.take_succ_cons, List.take_zero, List.drop_succ_cons, List.drop_zero, List.take_nil, List.drop_nil, List.append_nil, eqAV, eqAVL, BEq.rfl, eqA, eqD, sameS, Option.map, Option.isNone, addrA, wrap64, gt_iff_lt, ge_iff_le, Int.lt_irrefl, Int.le_refl]
    exact ⟨s1, t1⟩
  · rintro n fr H2 ⟨i, hn, hi, g1, g5, g6, g7, ch, tb⟩
    by_cases hlt : i < k
    · have hlt' : (i : Int) < (k : Int) := by omega
      have hw : IntKind.i64.wrap ((i : Int) + 1) = ((i + 1 : Nat) : Int) := by rw [wrap64 (by omega) (by omega)]; omega
      have hw4 : IntKind.i64.wrap (4 + (i : Int)) = 4 + (i : Int) := wrap64 (by omega) (by omega)
      simp -implicitDefEqProofs only [g1, g5, g6, g7, hlt', hw4, ↓WP_seq, ↓WP_skip, ↓WP_region, ↓WP_dregion, ↓WP_cond, ↓WP_block, ↓WP_exit, ↓WP_ret, ↓OW_nil, ↓OW_cons, ↓DW_nil, ↓DW_cons, ↓XW_call, XW, exA, KO_eq, KD_eq, OptK_some, EvK_some, GW2_true, GW2_false, KS_normal, KS_ret, KS_exit, KB_normal, KB_ret, KB_exit, CP2_bool, RP_ret, RP_normal, putA_some, putA_none, ev_t, ev_c, evs, evo, wantA, initA, resA, Tr.get_set, vl, chkOk, cond_true, cond_false, Nat.add_zero, Nat.mul_one, Nat.one_mul, Nat.zero_add, Nat.zero_mul, aggOf, pInt, binA, unA, intA, beq_true, beq_false, Bool.not_true, Bool.not_false, Bool.not_eq_true, and_self, and_true, true_and, ↓reduceIte, reduceIte, Nat.reduceEqDiff, Nat.succ_ne_self, Nat.reduceAdd, Nat.reduceMul, Nat.reduceSub, Nat.reduceBEq, Nat.reduceLT, Nat.reduceLeDiff, Int.cast_ofNat_Int, Int.reduceToNat, Int.reduceLT, Int.reduceLE, Int.reduceGE, Int.reduceGT, Int.reduceEq, Int.reduceNe, Int.reduceAdd, Int.reduceSub, Int.reduceNeg, decide_true, decide_false, Int.toNat_natCast, reduceCtorEq, List.nil_append, List.cons_append, AV.boxy, AV.cells, List.length_cons, List.length_nil, Nat.beq_refl, AOp.cl, ↓OW_guard, ↓DW_guard, KDW_0, KDW_1, KDW_2, OWskip_eq, DWskip_eq, fillA, setAt, DChk, DAt, stepA, ble_dec, beq_dec, Bool.and_self, Bool.and_true, Bool.true_and, Bool.and_false, Bool.false_and, List.take_succ_cons, List.take_zero, List.drop_succ_cons, List.drop_zero, List.take_nil, List.drop_nil, List.append_nil, eqAV, eqAVL, BEq.rfl, eqA, eqD, sameS, Option.map, Option.isNone, addrA, wrap64, gt_iff_lt, ge_iff_le, Int.lt_irrefl, Int.le_refl]
      refine CW.mono (c_Take tb 1 i) ?_
      rintro u H3 ⟨rfl, t3, e3⟩
      rw [gM_take (by omega) (by omega)] at t3 ⊢
      simp -implicitDefEqProofs only [g1, g5, g6, g7, hw, hw4, bne_self_eq_false, Bool.false_eq_true, ↓WP_seq, ↓WP_skip, ↓WP_region, ↓WP_dregion, ↓WP_cond, ↓WP_block, ↓WP_exit, ↓WP_ret, ↓OW_nil, ↓OW_cons, ↓DW_nil, ↓DW_cons, ↓XW_call, XW, exA, KO_eq, KD_eq, OptK_some, EvK_some, GW2_true, GW2_false, KS_normal, KS_ret, KS_exit, KB_normal, KB_ret, KB_exit, CP2_bool, RP_ret, RP_normal, putA_some, putA_none, ev_t, ev_c, evs, evo, wantA, initA, resA, Tr.get_set, vl, chkOk, cond_true, cond_false, Nat.add_zero, Nat.mul_one, Nat.one_mul, Nat.zero_add, Nat.zero_mul, aggOf, pInt, binA, unA, intA, beq_true, beq_false, Bool.not_true, Bool.not_false, Bool.not_eq_true, and_self, and_true, true_and, ↓reduceIte, reduceIte, Nat.reduceEqDiff, Nat.succ_ne_self, Nat.reduceAdd, Nat.reduceMul, Nat.reduceSub, Nat.reduceBEq, Nat.reduceLT, Nat.reduceLeDiff, Int.cast_ofNat_Int, Int.reduceToNat, Int.reduceLT, Int.reduceLE, Int.reduceGE, Int.reduceGT, Int.reduceEq, Int.reduceNe, Int.reduceAdd, Int.reduceSub, Int.reduceNeg, decide_true, decide_false, Int.toNat_natCast, reduceCtorEq, List.nil_append, List.cons_append, AV.boxy, AV.cells, List.length_cons, List.length_nil, Nat.beq_refl, AOp.cl, ↓OW_guard, ↓DW_guard, KDW_0, KDW_1, KDW_2, OWskip_eq, DWskip_eq, fillA, setAt, DChk, DAt, stepA, ble_dec, beq_dec, Bool.and_self, Bool.and_true, Bool.true_and, Bool.and_false, Bool.false_and, List.take_succ_cons, List.take_zero, List.drop_succ_cons, List.drop_zero, List.take_nil, List.drop_nil, List.append_nil, eqAV, eqAVL, BEq.rfl, eqA, eqD, sameS, Option.map, Option.isNone, addrA, wrap64, gt_iff_lt, ge_iff_le, Int.lt_irrefl, Int.le_refl]
      exact ⟨k - (i + 1), by omega, i + 1, rfl, by omega, rfl, step ch e3, t3⟩
    · obtain rfl : i = k := by omega
      have hlt' : ¬ (i : Int) < (i : Int) := by omega
      simp -implicitDefEqProofs only [g1, g5, g6, g7, hlt', Bool.false_eq_true, ↓WP_seq, ↓WP_skip, ↓WP_region, ↓WP_dregion, ↓WP_cond, ↓WP_block, ↓WP_exit, ↓WP_ret, ↓OW_nil, ↓OW_cons, ↓DW_nil, ↓DW_cons, ↓XW_call, XW, exA, KO_eq, KD_eq, OptK_some, EvK_some, GW2_true, GW2_false, KS_normal, KS_ret, KS_exit, KB_normal, KB_ret, KB_exit, CP2_bool, RP_ret, RP_normal, putA_some, putA_none, ev_t, ev_c, evs, evo, wantA, initA, resA, Tr.get_set, vl, chkOk, cond_true, cond_false, Nat.add_zero, Nat.mul_one, Nat.one_mul, Nat.zero_add, Nat.zero_mul, aggOf, pInt, binA, unA, intA, beq_true, beq_false, Bool.not_true, Bool.not_false, Bool.not_eq_true, and_self, and_true, true_and, ↓reduceIte, reduceIte, Nat.reduceEqDiff, Nat.succ_ne_self, Nat.reduceAdd, Nat.reduceMul, Nat.reduceSub, Nat.reduceBEq, Nat.reduceLT, Nat.reduceLeDiff, Int.cast_ofNat_Int, Int.reduceToNat, Int.reduceLT, Int.reduceLE, Int.reduceGE, Int.reduceGT, Int.reduceEq, Int.reduceNe, Int.reduceAdd, Int.reduceSub, Int.reduceNeg, decide_true, decide_false, Int.toNat_natCast, reduceCtorEq, List.nil_append, List.cons_append, AV.boxy, AV.cells, List.length_cons, List.length_nil, Nat.beq_refl, AOp.cl, ↓OW_guard, ↓DW_guard, KDW_0, KDW_1, KDW_2, OWskip_eq, DWskip_eq, fillA, setAt, DChk, DAt, stepA, ble_dec, beq_dec, Bool.and_self, Bool.and_true, Bool.true_and, Bool.and_false, Bool.false_and, List.take_succ_cons, List.take_zero, List.drop_succ_cons, List.drop_zero, List.take_nil, List.drop_nil, List.append_nil, eqAV, eqAVL, BEq.rfl, eqA, eqD, sameS, Option.map, Option.isNone, addrA, wrap64, gt_iff_lt, ge_iff_le, Int.lt_irrefl, Int.le_refl]
      exact ⟨ch, tb⟩
  rintro ex fr H2 ⟨rfl, g1, g5, g6, ch2, t2⟩
  -- some are given back
  have hm3 := MR.new (kc := kI) (vc := kI) H2
  have s3 := Chg.new H2 (.map [] 0)
  have n3 : (H2.new (.map [] 0)).next = H2.next + 1 := rfl
  have t3 := t2.keep s3.1 (s3.gt t2.lts.1) (s3.gt t2.lts.2.1) (s3.gt t2.lts.2.2)
  have hro : H2.next ≠ b ∧ H2.next ≠ r1 ∧ H2.next ≠ r2 ∧ H.next ≤ H2.next := by have := t2.lts; have := ch2.1; omega
  have ch3 := ch2.trans s3
  generalize eH3 : H2.new (.map [] 0) = H3 at hm3 s3 n3 t3 ch3
  generalize eR : H2.next = ro at hm3 n3 hro
  have e0 : (fun _ : Int => (none : Option Int)) = oM (fun _ => false) := by funext j; rfl
  rw [e0] at hm3
  have step2 : ∀ {G G' : AHeap} {O f'}, Sm H G → TabR G b r1 r2 (gM k O 0) → MR kI kI G ro f' → Ch ro G G' → Sm H G' ∧ TabR G' b r1 r2 (gM k O 0) := fun hG ht hm hc =>
    ⟨Sm.of (by rw [hc.1]; exact hG.1) fun z hz => by rw [hc.2 z (by omega), hG.gt hz], ht.keep (by rw [hc.1]; exact Nat.le_refl _) (hc.2 b (by omega)) (hc.2 r1 (by omega)) (hc.2 r2 (by omega))⟩
  simp -implicitDefEqProofs only [g1, g5, g6, eH3, eR, ↓WP_seq, ↓WP_skip, ↓WP_region, ↓WP_dregion, ↓WP_cond, ↓WP_block, ↓WP_exit, ↓WP_ret, ↓OW_nil, ↓OW_cons, ↓DW_nil, ↓DW_cons, ↓XW_call, XW, exA, KO_eq, KD_eq, OptK_some, EvK_some, GW2_true, GW2_false, KS_normal, KS_ret, KS_exit, KB_normal, KB_ret, KB_exit, CP2_bool, RP_ret, RP_normal, putA_some, putA_none, ev_t, ev_c, evs, evo, wantA, initA, resA, Tr.get_set, vl, chkOk, cond_true, cond_false, Nat.add_zero, Nat.mul_one, Nat.one_mul, Nat.zero_add, Nat.zero_mul, aggOf, pInt, binA, unA, intA, beq_true, beq_false, Bool.not_true, Bool.not_false, Bool.not_eq_true, and_self, and_true, true_and, ↓reduceIte, reduceIte, Nat.reduceEqDiff, Nat.succ_ne_self, Nat.reduceAdd, Nat.reduceMul, Nat.reduceSub, Nat.reduceBEq, Nat.reduceLT, Nat.reduceLeDiff, Int.cast_ofNat_Int, Int.reduceToNat, Int.reduceLT, Int.reduceLE, Int.reduceGE, Int.reduceGT, Int.reduceEq, Int.reduceNe, Int.reduceAdd, Int.reduceSub, Int.reduceNeg, decide_true, decide_false, Int.toNat_natCast, reduceCtorEq, List.nil_append, List.cons_append, AV.boxy, AV.cells, List.length_cons, List.length_nil, Nat.beq_refl, AOp.cl, ↓OW_guard, ↓DW_guard, KDW_0, KDW_1, KDW_2, OWskip_eq, DWskip_eq, fillA, setAt, DChk, DAt, stepA, ble_dec, beq_dec, Bool.and_self, Bool.and_true, Bool.true_and, Bool.and_false, Bool.false_and, List.take_succ_cons, List.take_zero, List.drop_succ_cons, List.drop_zero, List.take_nil, List.drop_nil, List.append_nil, eqAV, eqAVL, BEq.rfl, eqA, eqD, sameS, Option.map, Option.isNone, addrA, wrap64, gt_iff_lt, ge_iff_le, Int.lt_irrefl, Int.le_refl]
  refine WP_mono (Q := fun ex fr H' => ex = .exit 2 ∧ ∃ O, fr.get 5 = some (.ptr (some (b, 0))) ∧ fr.get 6 = some (.int .i64 k) ∧ fr.get 8 = some (.map (some ro)) ∧ TabR H' b r1 r2 (gM k O 0) ∧ MR kI kI H' ro (oM O)) ?_ (WP_loop (fun n fr H' => ∃ (i : Nat) (O : Int → Bool), n = 20 - i ∧ i ≤ 20 ∧ fr.get 1 = some (.slice a s0 l.length cl) ∧ fr.get 5 = some (.ptr (some (b, 0))) ∧ fr.get 6 = some (.int .i64 k) ∧ fr.get 8 = some (.map (some ro)) ∧ fr.get 9 = some (.int .i64 i) ∧ Chg H H' none ∧ TabR H' b r1 r2 (gM k O 0) ∧ MR kI kI H' ro (oM O)) 20 ?_ ?_)
  rotate_left
  · refine ⟨0, fun _ => false, rfl, by omega, ?_⟩
    simp -implicitDefEqProofs only [g1, g5, g6, ↓WP_seq, ↓WP_skip, ↓WP_region, ↓WP_dregion, ↓WP_cond, ↓WP_block, ↓WP_exit, ↓WP_ret, ↓OW_nil, ↓OW_cons, ↓DW_nil, ↓DW_cons, ↓XW_call, XW, exA, KO_eq, KD_eq, OptK_some, EvK_some, GW2_true, GW2_false, KS_normal, KS_ret, KS_exit, KB_normal, KB_ret, KB_exit, CP2_bool, RP_ret, RP_normal, putA_some, putA_none, ev_t, ev_c, evs, evo, wantA, initA, resA, Tr.get_set, vl, chkOk, cond_true, cond_false, Nat.add_zero, Nat.mul_one, Nat.one_mul, Nat.zero_add, Nat.zero_mul, aggOf, pInt, binA, unA, intA, beq_true, beq_false, Bool.not_true, Bool.not_false, Bool.not_eq_true, and_self, and_true, true_and, ↓reduceIte, reduceIte, Nat.reduceEqDiff, Nat.succ_ne_self, Nat.reduceAdd, Nat.reduceMul, Nat.reduceSub, Nat.reduceBEq, Nat.reduceLT, Nat.reduceLeDiff, Int.cast_ofNat_Int, Int.reduceToNat, Int.reduceLT, Int.reduceLE, Int.reduceGE, Int.reduceGT, Int.reduceEq, Int.reduceNe, Int.reduceAdd, Int.reduceSub, Int.reduceNeg, decide_true, decide_false, Int.toNat_natCast, reduceCtorEq, List.nil_append, List.cons_append, AV.boxy, AV.cells, List.length_cons, List.length_nil, Nat.beq_refl, AOp.cl, ↓OW_guard, ↓DW_guard, KDW_0, KDW_1, KDW_2, OWskip_eq, DWskip_eq, fillA, setAt, DChk, DAt, stepA, ble_dec, beq_dec, Bool.and_self, Bool.and_true, Bool.true_and, Bool.and_false, Bool.false_and, List.take_succ_cons, List.take_zero, List.drop_succ_cons, List.drop_zero, List.take_nil, List.drop_nil, List.append_nil, eqAV, eqAVL, BEq.rfl, eqA, eqD, sameS, Option.map, Option.isNone, addrA, wrap64, gt_iff_lt, ge_iff_le, Int.lt_irrefl, Int.le_refl]
    exact ⟨ch3, t3, hm3⟩
  · rintro n fr H4 ⟨i, O, hn, hi, f1, f5, f6, f8, f9, ch, tb, hm⟩
    by_cases hlt : i < l.length
    · have hlt' : (i : Int) < (l.length : Int) := by omega
      by_cases hc : i < 20
      · have hc' : (i : Int) < 20 := by omega
        have i0 : (0 : Int) ≤ i := by omega
        have hw : IntKind.i64.wrap ((i : Int) + 1) = ((i + 1 : Nat) : Int) := by rw [wrap64 (by omega) (by omega)]; omega
        have hwk1 : IntKind.i64.wrap ((k : Int) - 1) = (k : Int) - 1 := wrap64 (by omega) (by omega)
        obtain ⟨x, o, rfl, hr⟩ := hrd (by omega)
        have hr4 := hr.keep ch.1 (ch.gt hr.1)
        have a1 := hr4.one (j := i) (v := .int .i64 l[i]) (by simp [ivs, iv, hlt])
        simp -implicitDefEqProofs only [f1, f5, f6, f8, f9, hlt', hc', i0, a1, hwk1, ↓WP_seq, ↓WP_skip, ↓WP_region, ↓WP_dregion, ↓WP_cond, ↓WP_block, ↓WP_exit, ↓WP_ret, ↓OW_nil, ↓OW_cons, ↓DW_nil, ↓DW_cons, ↓XW_call, XW, exA, KO_eq, KD_eq, OptK_some, EvK_some, GW2_true, GW2_false, KS_normal, KS_ret, KS_exit, KB_normal, KB_ret, KB_exit, CP2_bool, RP_ret, RP_normal, putA_some, putA_none, ev_t, ev_c, evs, evo, wantA, initA, resA, Tr.get_set, vl, chkOk, cond_true, cond_false, Nat.add_zero, Nat.mul_one, Nat.one_mul, Nat.zero_add, Nat.zero_mul, aggOf, pInt, binA, unA, intA, beq_true, beq_false, Bool.not_true, Bool.not_false, Bool.not_eq_true, and_self, and_true, true_and, ↓reduceIte, reduceIte, Nat.reduceEqDiff, Nat.succ_ne_self, Nat.reduceAdd, Nat.reduceMul, Nat.reduceSub, Nat.reduceBEq, Nat.reduceLT, Nat.reduceLeDiff, Int.cast_ofNat_Int, Int.reduceToNat, Int.reduceLT, Int.reduceLE, Int.reduceGE, Int.reduceGT, Int.reduceEq, Int.reduceNe, Int.reduceAdd, Int.reduceSub, Int.reduceNeg, decide_true, decide_false, Int.toNat_natCast, reduceCtorEq, List.nil_append, List.cons_append, AV.boxy, AV.cells, List.length_cons, List.length_nil, Nat.beq_refl, AOp.cl, ↓OW_guard, ↓DW_guard, KDW_0, KDW_1, KDW_2, OWskip_eq, DWskip_eq, fillA, setAt, DChk, DAt, stepA, ble_dec, beq_dec, Bool.and_self, Bool.and_true, Bool.true_and, Bool.and_false, Bool.false_and, List.take_succ_cons, List.take_zero, List.drop_succ_cons, List.drop_zero, List.take_nil, List.drop_nil, List.append_nil, eqAV, eqAVL, BEq.rfl, eqA, eqD, sameS, Option.map, Option.isNone, addrA, wrap64, gt_iff_lt, ge_iff_le, Int.lt_irrefl, Int.le_refl]
        refine CW.mono (c_within l[i] 0 ((k : Int) - 1) _ (by omega) (by omega) (by omega)) ?_
        rintro u H' ⟨⟨d, rfl, d0, d1⟩, hH⟩
        have hH2 := hH.symm
        subst hH2
        have hwd : IntKind.i64.wrap (4 + d) = 4 + d := wrap64 (by omega) (by omega)
        obtain ⟨v1, v2⟩ := gM_give (k := k) (x := 4 + d) (O := O) (by omega) (by omega)
        simp -implicitDefEqProofs only [f1, f5, f6, f8, f9, hwd, ↓WP_seq, ↓WP_skip, ↓WP_region, ↓WP_dregion, ↓WP_cond, ↓WP_block, ↓WP_exit, ↓WP_ret, ↓OW_nil, ↓OW_cons, ↓DW_nil, ↓DW_cons, ↓XW_call, XW, exA, KO_eq, KD_eq, OptK_some, EvK_some, GW2_true, GW2_false, KS_normal, KS_ret, KS_exit, KB_normal, KB_ret, KB_exit, CP2_bool, RP_ret, RP_normal, putA_some, putA_none, ev_t, ev_c, evs, evo, wantA, initA, resA, Tr.get_set, vl, chkOk, cond_true, cond_false, Nat.add_zero, Nat.mul_one, Nat.one_mul, Nat.zero_add, Nat.zero_mul, aggOf, pInt, binA, unA, intA, beq_true, beq_false, Bool.not_true, Bool.not_false, Bool.not_eq_true, and_self, and_true, true_and, ↓reduceIte, reduceIte, Nat.reduceEqDiff, Nat.succ_ne_self, Nat.reduceAdd, Nat.reduceMul, Nat.reduceSub, Nat.reduceBEq, Nat.reduceLT, Nat.reduceLeDiff, Int.cast_ofNat_Int, Int.reduceToNat, Int.reduceLT, Int.reduceLE, Int.reduceGE, Int.reduceGT, Int.reduceEq, Int.reduceNe, Int.reduceAdd, Int.reduceSub, Int.reduceNeg, decide_true, decide_false, Int.toNat_natCast, reduceCtorEq, List.nil_append, List.cons_append, AV.boxy, AV.cells, List.length_cons, List.length_nil, Nat.beq_refl, AOp.cl, ↓OW_guard, ↓DW_guard, KDW_0, KDW_1, KDW_2, OWskip_eq, DWskip_eq, fillA, setAt, DChk, DAt, stepA, ble_dec, beq_dec, Bool.and_self, Bool.and_true, Bool.true_and, Bool.and_false, Bool.false_and, List.take_succ_cons, List.take_zero, List.drop_succ_cons, List.drop_zero, List.take_nil, List.drop_nil, List.append_nil, eqAV, eqAVL, BEq.rfl, eqA, eqD, sameS, Option.map, Option.isNone, addrA, wrap64, gt_iff_lt, ge_iff_le, Int.lt_irrefl, Int.le_refl]
        refine CW.mono (c_Give tb (4 + d)) ?_
        rintro u H5 ⟨rfl, t5, e5⟩
        rw [v2] at t5
        rw [v1]
        have hm5 : MR kI kI H5 ro (oM O) := hm.keep e5.1 (e5.2 ro hm.lt (by rintro (h | h) <;> omega))
        have lk4 : lookA (.sc .int) (.int .i64 0) false H4 ro (.int .i64 (4 + d)) = _ := hm.lookV keyed_int (4 + d) (z := 0) rfl
        have lk5 : lookA (.sc .int) (.int .i64 0) false H5 ro (.int .i64 (4 + d)) = _ := hm5.lookV keyed_int (4 + d) (z := 0) rfl
        obtain ⟨H6, p1, p2, p3⟩ := hm5.upd keyed_int (4 + d) 1
        rw [oM_set] at p2
        simp -implicitDefEqProofs only [kI] at p1
        obtain ⟨s6, t6⟩ := step2 (step ch e5) t5 hm5 p3
        have ov : (((oM O (4 + d)).getD 0 == 0) : Bool) = !O (4 + d) := by unfold oM; cases O (4 + d) <;> rfl
        simp -implicitDefEqProofs only [f1, f5, f6, f8, f9, hw, lk4, lk5, p1, ov, bne_self_eq_false, Bool.false_eq_true, ↓exA_lookup, ↓stepA_lookup, ↓exA_mapEnt, ↓exA_entSt, ↓exA_delete, ↓exA_mapUpd, LkA_some, EvA_some, entL_some, updM_some, at0, at1, at2, ↓WP_seq, ↓WP_skip, ↓WP_region, ↓WP_dregion, ↓WP_cond, ↓WP_block, ↓WP_exit, ↓WP_ret, ↓OW_nil, ↓OW_cons, ↓DW_nil, ↓DW_cons, ↓XW_call, XW, exA, KO_eq, KD_eq, OptK_some, EvK_some, GW2_true, GW2_false, KS_normal, KS_ret, KS_exit, KB_normal, KB_ret, KB_exit, CP2_bool, RP_ret, RP_normal, putA_some, putA_none, ev_t, ev_c, evs, evo, wantA, initA, resA, Tr.get_set, vl, chkOk, cond_true, cond_false, Nat.add_zero, Nat.mul_one, Nat.one_mul, Nat.zero_add, Nat.zero_mul, aggOf, pInt, binA, unA, intA, beq_true, beq_false, Bool.not_true, Bool.not_false, Bool.not_eq_true, and_self, and_true, true_and, ↓reduceIte, reduceIte, Nat.reduceEqDiff, Nat.succ_ne_self, Nat.reduceAdd, Nat.reduceMul, Nat.reduceSub, Nat.reduceBEq, Nat.reduceLT, Nat.reduceLeDiff, Int.cast_ofNat_Int, Int.reduceToNat, Int.reduceLT, Int.reduceLE, Int.reduceGE, Int.reduceGT, Int.reduceEq, Int.reduceNe, Int.reduceAdd, Int.reduceSub, Int.reduceNeg, decide_true, decide_false, Int.toNat_natCast, reduceCtorEq, List.nil_append, List.cons_append, AV.boxy, AV.cells, List.length_cons, List.length_nil, Nat.beq_refl, AOp.cl, ↓OW_guard, ↓DW_guard, KDW_0, KDW_1, KDW_2, OWskip_eq, DWskip_eq, fillA, setAt, DChk, DAt, stepA, ble_dec, beq_dec, Bool.and_self, Bool.and_true, Bool.true_and, Bool.and_false, Bool.false_and, List.take_succ_cons, List.take_zero, List.drop_succ_cons, List.drop_zero, List.take_nil, List.drop_nil, List.append_nil, eqAV, eqAVL, BEq.rfl, eqA, eqD, sameS, Option.map, Option.isNone, addrA, wrap64, gt_iff_lt, ge_iff_le, Int.lt_irrefl, Int.le_refl]
        exact ⟨20 - (i + 1), by omega, i + 1, fset O (4 + d) true, rfl, by omega, rfl, s6, t6, p2⟩
      · have hc' : ¬ (i : Int) < 20 := by omega
        simp -implicitDefEqProofs only [f1, f5, f6, f8, f9, hlt', hc', Bool.false_eq_true, ↓WP_seq, ↓WP_skip, ↓WP_region, ↓WP_dregion, ↓WP_cond, ↓WP_block, ↓WP_exit, ↓WP_ret, ↓OW_nil, ↓OW_cons, ↓DW_nil, ↓DW_cons, ↓XW_call, XW, exA, KO_eq, KD_eq, OptK_some, EvK_some, GW2_true, GW2_false, KS_normal, KS_ret, KS_exit, KB_normal, KB_ret, KB_exit, CP2_bool, RP_ret, RP_normal, putA_some, putA_none, ev_t, ev_c, evs, evo, wantA, initA, resA, Tr.get_set, vl, chkOk, cond_true, cond_false, Nat.add_zero, Nat.mul_one, Nat.one_mul, Nat.zero_add, Nat.zero_mul, aggOf, pInt, binA, unA, intA, beq_true, beq_false, Bool.not_true, Bool.not_false, Bool.not_eq_true, and_self, and_true, true_and, ↓reduceIte, reduceIte, Nat.reduceEqDiff, Nat.succ_ne_self, Nat.reduceAdd, Nat.reduceMul, Nat.reduceSub, Nat.reduceBEq, Nat.reduceLT, Nat.reduceLeDiff, Int.cast_ofNat_Int, Int.reduceToNat, Int.reduceLT, Int.reduceLE, Int.reduceGE, Int.reduceGT, Int.reduceEq, Int.reduceNe, Int.reduceAdd, Int.reduceSub, Int.reduceNeg, decide_true, decide_false, Int.toNat_natCast, reduceCtorEq, List.nil_append, List.cons_append, AV.boxy, AV.cells, List.length_cons, List.length_nil, Nat.beq_refl, AOp.cl, ↓OW_guard, ↓DW_guard, KDW_0, KDW_1, KDW_2, OWskip_eq, DWskip_eq, fillA, setAt, DChk, DAt, stepA, ble_dec, beq_dec, Bool.and_self, Bool.and_true, Bool.true_and, Bool.and_false, Bool.false_and, List.take_succ_cons, List.take_zero, List.drop_succ_cons, List.drop_zero, List.take_nil, List.drop_nil, List.append_nil, eqAV, eqAVL, BEq.rfl, eqA, eqD, sameS, Option.map, Option.isNone, addrA, wrap64, gt_iff_lt, ge_iff_le, Int.lt_irrefl, Int.le_refl]
        exact ⟨O, tb, hm⟩
    · have hlt' : ¬ (i : Int) < (l.length : Int) := by omega
      simp -implicitDefEqProofs only [f1, f5, f6, f8, f9, hlt', Bool.false_eq_true, ↓WP_seq, ↓WP_skip, ↓WP_region, ↓WP_dregion, ↓WP_cond, ↓WP_block, ↓WP_exit, ↓WP_ret, ↓OW_nil, ↓OW_cons, ↓DW_nil, ↓DW_cons, ↓XW_call, XW, exA, KO_eq, KD_eq, OptK_some, EvK_some, GW2_true, GW2_false, KS_normal, KS_ret, KS_exit, KB_normal, KB_ret, KB_exit, CP2_bool, RP_ret, RP_normal, putA_some, putA_none, ev_t, ev_c, evs, evo, wantA, initA, resA, Tr.get_set, vl, chkOk, cond_true, cond_false, Nat.add_zero, Nat.mul_one, Nat.one_mul, Nat.zero_add, Nat.zero_mul, aggOf, pInt, binA, unA, intA, beq_true, beq_false, Bool.not_true, Bool.not_false, Bool.not_eq_true, and_self, and_true, true_and, ↓reduceIte, reduceIte, Nat.reduceEqDiff, Nat.succ_ne_self, Nat.reduceAdd, Nat.reduceMul, Nat.reduceSub, Nat.reduceBEq, Nat.reduceLT, Nat.reduceLeDiff, Int.cast_ofNat_Int, Int.reduceToNat, Int.reduceLT, Int.reduceLE, Int.reduceGE, Int.reduceGT, Int.reduceEq, Int.reduceNe, Int.reduceAdd, Int.reduceSub, Int.reduceNeg, decide_true, decide_false, Int.toNat_natCast, reduceCtorEq, List.nil_append, List.cons_append, AV.boxy, AV.cells, List.length_cons, List.length_nil, Nat.beq_refl, AOp.cl, ↓OW_guard, ↓DW_guard, KDW_0, KDW_1, KDW_2, OWskip_eq, DWskip_eq, fillA, setAt, DChk, DAt, stepA, ble_dec, beq_dec, Bool.and_self, Bool.and_true, Bool.true_and, Bool.and_false, Bool.false_and, List.take_succ_cons, List.take_zero, List.drop_succ_cons, List.drop_zero, List.take_nil, List.drop_nil, List.append_nil, eqAV, eqAVL, BEq.rfl, eqA, eqD, sameS, Option.map, Option.isNone, addrA, wrap64, gt_iff_lt, ge_iff_le, Int.lt_irrefl, Int.le_refl]
      exact ⟨O, tb, hm⟩
  rintro ex fr H4 ⟨rfl, O, f5, f6, f8, t4, hm4⟩
  -- they are taken again
  simp -implicitDefEqProofs only [f5, f6, f8, ↓WP_seq, ↓WP_skip, ↓WP_region, ↓WP_dregion, ↓WP_cond, ↓WP_block, ↓WP_exit, ↓WP_ret, ↓OW_nil, ↓OW_cons, ↓DW_nil, ↓DW_cons, ↓XW_call, XW, exA, KO_eq, KD_eq, OptK_some, EvK_some, GW2_true, GW2_false, KS_normal, KS_ret, KS_exit, KB_normal, KB_ret, KB_exit, CP2_bool, RP_ret, RP_normal, putA_some, putA_none, ev_t, ev_c, evs, evo, wantA, initA, resA, Tr.get_set, vl, chkOk, cond_true, cond_false, Nat.add_zero, Nat.mul_one, Nat.one_mul, Nat.zero_add, Nat.zero_mul, aggOf, pInt, binA, unA, intA, beq_true, beq_false, Bool.not_true, Bool.not_false, Bool.not_eq_true, and_self, and_true, true_and, ↓reduceIte, reduceIte, Nat.reduceEqDiff, Nat.succ_ne_self, Nat.reduceAdd, Nat.reduceMul, Nat.reduceSub, Nat.reduceBEq, Nat.reduceLT, Nat.reduceLeDiff, Int.cast_ofNat_Int, Int.reduceToNat, Int.reduceLT, Int.reduceLE, Int.reduceGE, Int.reduceGT, Int.reduceEq, Int.reduceNe, Int.reduceAdd, Int.reduceSub, Int.reduceNeg, decide_true, decide_false, Int.toNat_natCast, reduceCtorEq, List.nil_append, List.cons_append, AV.boxy, AV.cells, List.length_cons, List.length_nil, Nat.beq_refl, AOp.cl, ↓OW_guard, ↓DW_guard, KDW_0, KDW_1, KDW_2, OWskip_eq, DWskip_eq, fillA, setAt, DChk, DAt, stepA, ble_dec, beq_dec, Bool.and_self, Bool.and_true, Bool.true_and, Bool.and_false, Bool.false_and, List.take_succ_cons, List.take_zero, List.drop_succ_cons, List.drop_zero, List.take_nil, List.drop_nil, List.append_nil, eqAV, eqAVL, BEq.rfl, eqA, eqD, sameS, Option.map, Option.isNone, addrA, wrap64, gt_iff_lt, ge_iff_le, Int.lt_irrefl, Int.le_refl]
  refine WP_mono (Q := fun ex fr H' => ex = .exit 4 ∧ fr.get 5 = some (.ptr (some (b, 0))) ∧ fr.get 6 = some (.int .i64 k) ∧ TabR H' b r1 r2 (gM k O k)) ?_ (WP_loop (fun n fr H' => ∃ i : Nat, n = k - i ∧ i ≤ k ∧ fr.get 5 = some (.ptr (some (b, 0))) ∧ fr.get 6 = some (.int .i64 k) ∧ fr.get 8 = some (.map (some ro)) ∧ fr.get 11 = some (.int .i64 i) ∧ TabR H' b r1 r2 (gM k O i) ∧ MR kI kI H' ro (oM O)) k ?_ ?_)
  rotate_left
  · refine ⟨0, rfl, by omega, ?_⟩
    simp -implicitDefEqProofs only [f5, f6, f8, ↓WP_seq, ↓WP_skip, ↓WP_region, ↓WP_dregion, ↓WP_cond, ↓WP_block, ↓WP_exit, ↓WP_ret, ↓OW_nil, ↓OW_cons, ↓DW_nil, ↓DW_cons, ↓XW_call, XW, exA, KO_eq, KD_eq, OptK_some, EvK_some, GW2_true, GW2_false, KS_normal, KS_ret, KS_exit, KB_normal, KB_ret, KB_exit, CP2_bool, RP_ret, RP_normal, putA_some, putA_none, ev_t, ev_c, evs, evo, wantA, initA, resA, Tr.get_set, vl, chkOk, cond_true, cond_false, Nat.add_zero, Nat.mul_one, Nat.one_mul, Nat.zero_add, Nat.zero_mul, aggOf, pInt, binA, unA, intA, beq_true, beq_false, Bool.not_true, Bool.not_false, Bool.not_eq_true, and_self, and_true, true_and, ↓reduceIte, reduceIte, Nat.reduceEqDiff, Nat.succ_ne_self, Nat.reduceAdd, Nat.reduceMul, Nat.reduceSub, Nat.reduceBEq, Nat.reduceLT, Nat.reduceLeDiff, Int.cast_ofNat_Int, Int.reduceToNat, Int.reduceLT, Int.reduceLE, Int.reduceGE, Int.reduceGT, Int.reduceEq, Int.reduceNe, Int.reduceAdd, Int.reduceSub, Int.reduceNeg, decide_true, decide_false, Int.toNat_natCast, reduceCtorEq, List.nil_append, List.cons_append, AV.boxy, AV.cells, List.length_cons, List.length_nil, Nat.beq_refl, AOp.cl, ↓OW_guard, ↓DW_guard, KDW_0, KDW_1, KDW_2, OWskip_eq, DWskip_eq, fillA, setAt, DChk, DAt, stepA, ble_dec, beq_dec, Bool.and_self, Bool.and_true, Bool.true_and, Bool.and_false, Bool.false_and, List.take_succ_cons, List.take_zero, List.drop_succ_cons, List.drop_zero, List.take_nil, List.drop_nil, List.append_nil, eqAV, eqAVL, BEq.rfl, eqA, eqD, sameS, Option.map, Option.isNone, addrA, wrap64, gt_iff_lt, ge_iff_le, Int.lt_irrefl, Int.le_refl]
    exact ⟨t4, hm4⟩
  · rintro n fr H5 ⟨i, hn, hi, g5, g6, g8, g11, tb, hm⟩
    by_cases hlt : i < k
    · have hlt' : (i : Int) < (k : Int) := by omega
      have hw : IntKind.i64.wrap ((i : Int) + 1) = ((i + 1 : Nat) : Int) := by rw [wrap64 (by omega) (by omega)]; omega
      have hw4 : IntKind.i64.wrap (4 + (i : Int)) = 4 + (i : Int) := wrap64 (by omega) (by omega)
      have lk : lookA (.sc .int) (.int .i64 0) false H5 ro (.int .i64 (4 + (i : Int))) = _ := hm.lookV keyed_int (4 + (i : Int)) (z := 0) rfl
      cases ho : O (4 + (i : Int)) with
      | false =>
        have ov : (((oM O (4 + (i : Int))).getD 0 == 1) : Bool) = false := by unfold oM; rw [ho]; rfl
        simp -implicitDefEqProofs only [g5, g6, g8, g11, hlt', hw, hw4, lk, ov, Bool.false_eq_true, ↓exA_lookup, ↓stepA_lookup, ↓exA_mapEnt, ↓exA_entSt, ↓exA_delete, ↓exA_mapUpd, LkA_some, EvA_some, entL_some, updM_some, at0, at1, at2, ↓WP_seq, ↓WP_skip, ↓WP_region, ↓WP_dregion, ↓WP_cond, ↓WP_block, ↓WP_exit, ↓WP_ret, ↓OW_nil, ↓OW_cons, ↓DW_nil, ↓DW_cons, ↓XW_call, XW, exA, KO_eq, KD_eq, OptK_some, EvK_some, GW2_true, GW2_false, KS_normal, KS_ret, KS_exit, KB_normal, KB_ret, KB_exit, CP2_bool, RP_ret, RP_normal, putA_some, putA_none, ev_t, ev_c, evs, evo, wantA, initA, resA, Tr.get_set, vl, chkOk, cond_true, cond_false, Nat.add_zero, Nat.mul_one, Nat.one_mul, Nat.zero_add, Nat.zero_mul, aggOf, pInt, binA, unA, intA, beq_true, beq_false, Bool.not_true, Bool.not_false, Bool.not_eq_true, and_self, and_true, true_and, ↓reduceIte, reduceIte, Nat.reduceEqDiff, Nat.succ_ne_self, Nat.reduceAdd, Nat.reduceMul, Nat.reduceSub, Nat.reduceBEq, Nat.reduceLT, Nat.reduceLeDiff, Int.cast_ofNat_Int, Int.reduceToNat, Int.reduceLT, Int.reduceLE, Int.reduceGE, Int.reduceGT, Int.reduceEq, Int.reduceNe, Int.reduceAdd, Int.reduceSub, Int.reduceNeg, decide_true, decide_false, Int.toNat_natCast, reduceCtorEq, List.nil_append, List.cons_append, AV.boxy, AV.cells, List.length_cons, List.length_nil, Nat.beq_refl, AOp.cl, ↓OW_guard, ↓DW_guard, KDW_0, KDW_1, KDW_2, OWskip_eq, DWskip_eq, fillA, setAt, DChk, DAt, stepA, ble_dec, beq_dec, Bool.and_self, Bool.and_true, Bool.true_and, Bool.and_false, Bool.false_and, List.take_succ_cons, List.take_zero, List.drop_succ_cons, List.drop_zero, List.take_nil, List.drop_nil, List.append_nil, eqAV, eqAVL, BEq.rfl, eqA, eqD, sameS, Option.map, Option.isNone, addrA, wrap64, gt_iff_lt, ge_iff_le, Int.lt_irrefl, Int.le_refl]
        refine ⟨k - (i + 1), by omega, i + 1, rfl, by omega, rfl, ?_, hm⟩
        have := gM_pass (k := (k : Int)) ho
        rw [show (((i + 1 : Nat)) : Int) = (i : Int) + 1 by omega, this]
        exact tb
      | true =>
        have ov : (((oM O (4 + (i : Int))).getD 0 == 1) : Bool) = true := by unfold oM; rw [ho]; rfl
        simp -implicitDefEqProofs only [g5, g6, g8, g11, hlt', hw, hw4, lk, ov, ↓exA_lookup, ↓stepA_lookup, ↓exA_mapEnt, ↓exA_entSt, ↓exA_delete, ↓exA_mapUpd, LkA_some, EvA_some, entL_some, updM_some, at0, at1, at2, ↓WP_seq, ↓WP_skip, ↓WP_region, ↓WP_dregion, ↓WP_cond, ↓WP_block, ↓WP_exit, ↓WP_ret, ↓OW_nil, ↓OW_cons, ↓DW_nil, ↓DW_cons, ↓XW_call, XW, exA, KO_eq, KD_eq, OptK_some, EvK_some, GW2_true, GW2_false, KS_normal, KS_ret, KS_exit, KB_normal, KB_ret, KB_exit, CP2_bool, RP_ret, RP_normal, putA_some, putA_none, ev_t, ev_c, evs, evo, wantA, initA, resA, Tr.get_set, vl, chkOk, cond_true, cond_false, Nat.add_zero, Nat.mul_one, Nat.one_mul, Nat.zero_add, Nat.zero_mul, aggOf, pInt, binA, unA, intA, beq_true, beq_false, Bool.not_true, Bool.not_false, Bool.not_eq_true, and_self, and_true, true_and, ↓reduceIte, reduceIte, Nat.reduceEqDiff, Nat.succ_ne_self, Nat.reduceAdd, Nat.reduceMul, Nat.reduceSub, Nat.reduceBEq, Nat.reduceLT, Nat.reduceLeDiff, Int.cast_ofNat_Int, Int.reduceToNat, Int.reduceLT, Int.reduceLE, Int.reduceGE, Int.reduceGT, Int.reduceEq, Int.reduceNe, Int.reduceAdd, Int.reduceSub, Int.reduceNeg, decide_true, decide_false, Int.toNat_natCast, reduceCtorEq, List.nil_append, List.cons_append, AV.boxy, AV.cells, List.length_cons, List.length_nil, Nat.beq_refl, AOp.cl, ↓OW_guard, ↓DW_guard, KDW_0, KDW_1, KDW_2, OWskip_eq, DWskip_eq, fillA, setAt, DChk, DAt, stepA, ble_dec, beq_dec, Bool.and_self, Bool.and_true, Bool.true_and, Bool.and_false, Bool.false_and, List.take_succ_cons, List.take_zero, List.drop_succ_cons, List.drop_zero, List.take_nil, List.drop_nil, List.append_nil, eqAV, eqAVL, BEq.rfl, eqA, eqD, sameS, Option.map, Option.isNone, addrA, wrap64, gt_iff_lt, ge_iff_le, Int.lt_irrefl, Int.le_refl]
        refine CW.mono (c_Take tb 2 i) ?_
        rintro u H6 ⟨rfl, t6, e6⟩
        rw [gM_again (by omega) hlt' (by omega) ho] at t6 ⊢
        have hm6 : MR kI kI H6 ro (oM O) := hm.keep e6.1 (e6.2 ro hm.lt (by rintro (h | h) <;> omega))
        simp -implicitDefEqProofs only [g5, g6, g8, g11, hw, hw4, bne_self_eq_false, Bool.false_eq_true, ↓exA_lookup, ↓stepA_lookup, ↓exA_mapEnt, ↓exA_entSt, ↓exA_delete, ↓exA_mapUpd, LkA_some, EvA_some, entL_some, updM_some, at0, at1, at2, ↓WP_seq, ↓WP_skip, ↓WP_region, ↓WP_dregion, ↓WP_cond, ↓WP_block, ↓WP_exit, ↓WP_ret, ↓OW_nil, ↓OW_cons, ↓DW_nil, ↓DW_cons, ↓XW_call, XW, exA, KO_eq, KD_eq, OptK_some, EvK_some, GW2_true, GW2_false, KS_normal, KS_ret, KS_exit, KB_normal, KB_ret, KB_exit, CP2_bool, RP_ret, RP_normal, putA_some, putA_none, ev_t, ev_c, evs, evo, wantA, initA, resA, Tr.get_set, vl, chkOk, cond_true, cond_false, Nat.add_zero, Nat.mul_one, Nat.one_mul, Nat.zero_add, Nat.zero_mul, aggOf, pInt, binA, unA, intA, beq_true, beq_false, Bool.not_true, Bool.not_false, Bool.not_eq_true, and_self, and_true, true_and, ↓reduceIte, reduceIte, Nat.reduceEqDiff, Nat.succ_ne_self, Nat.reduceAdd, Nat.reduceMul, Nat.reduceSub, Nat.reduceBEq, Nat.reduceLT, Nat.reduceLeDiff, Int.cast_ofNat_Int, Int.reduceToNat, Int.reduceLT, Int.reduceLE, Int.reduceGE, Int.reduceGT, Int.reduceEq, Int.reduceNe, Int.reduceAdd, Int.reduceSub, Int.reduceNeg, decide_true, decide_false, Int.toNat_natCast, reduceCtorEq, List.nil_append, List.cons_append, AV.boxy, AV.cells, List.length_cons, List.length_nil, Nat.beq_refl, AOp.cl, ↓OW_guard, ↓DW_guard, KDW_0, KDW_1, KDW_2, OWskip_eq, DWskip_eq, fillA, setAt, DChk, DAt, stepA, ble_dec, beq_dec, Bool.and_self, Bool.and_true, Bool.true_and, Bool.and_false, Bool.false_and, List.take_succ_cons, List.take_zero, List.drop_succ_cons, List.drop_zero, List.take_nil, List.drop_nil, List.append_nil, eqAV, eqAVL, BEq.rfl, eqA, eqD, sameS, Option.map, Option.isNone, addrA, wrap64, gt_iff_lt, ge_iff_le, Int.lt_irrefl, Int.le_refl]
        exact ⟨k - (i + 1), by omega, i + 1, rfl, by omega, rfl, t6, hm6⟩
    · obtain rfl : i = k := by omega
      have hlt' : ¬ (i : Int) < (i : Int) := by omega
      simp -implicitDefEqProofs only [g5, g6, g8, g11, hlt', Bool.false_eq_true, ↓WP_seq, ↓WP_skip, ↓WP_region, ↓WP_dregion, ↓WP_cond, ↓WP_block, ↓WP_exit, ↓WP_ret, ↓OW_nil, ↓OW_cons, ↓DW_nil, ↓DW_cons, ↓XW_call, XW, exA, KO_eq, KD_eq, OptK_some, EvK_some, GW2_true, GW2_false, KS_normal, KS_ret, KS_exit, KB_normal, KB_ret, KB_exit, CP2_bool, RP_ret, RP_normal, putA_some, putA_none, ev_t, ev_c, evs, evo, wantA, initA, resA, Tr.get_set, vl, chkOk, cond_true, cond_false, Nat.add_zero, Nat.mul_one, Nat.one_mul, Nat.zero_add, Nat.zero_mul, aggOf, pInt, binA, unA, intA, beq_true, beq_false, Bool.not_true, Bool.not_false, Bool.not_eq_true, and_self, and_true, true_and, ↓reduceIte, reduceIte, Nat.reduceEqDiff, Nat.succ_ne_self, Nat.reduceAdd, Nat.reduceMul, Nat.reduceSub, Nat.reduceBEq, Nat.reduceLT, Nat.reduceLeDiff, Int.cast_ofNat_Int, Int.reduceToNat, Int.reduceLT, Int.reduceLE, Int.reduceGE, Int.reduceGT, Int.reduceEq, Int.reduceNe, Int.reduceAdd, Int.reduceSub, Int.reduceNeg, decide_true, decide_false, Int.toNat_natCast, reduceCtorEq, List.nil_append, List.cons_append, AV.boxy, AV.cells, List.length_cons, List.length_nil, Nat.beq_refl, AOp.cl, ↓OW_guard, ↓DW_guard, KDW_0, KDW_1, KDW_2, OWskip_eq, DWskip_eq, fillA, setAt, DChk, DAt, stepA, ble_dec, beq_dec, Bool.and_self, Bool.and_true, Bool.true_and, Bool.and_false, Bool.false_and, List.take_succ_cons, List.take_zero, List.drop_succ_cons, List.drop_zero, List.take_nil, List.drop_nil, List.append_nil, eqAV, eqAVL, BEq.rfl, eqA, eqD, sameS, Option.map, Option.isNone, addrA, wrap64, gt_iff_lt, ge_iff_le, Int.lt_irrefl, Int.le_refl]
      exact tb
  rintro ex fr H5 ⟨rfl, g5, g6, t5⟩
  simp -implicitDefEqProofs only [g5, g6, ↓WP_seq, ↓WP_skip, ↓WP_region, ↓WP_dregion, ↓WP_cond, ↓WP_block, ↓WP_exit, ↓WP_ret, ↓OW_nil, ↓OW_cons, ↓DW_nil, ↓DW_cons, ↓XW_call, XW, exA, KO_eq, KD_eq, OptK_some, EvK_some, GW2_true, GW2_false, KS_normal, KS_ret, KS_exit, KB_normal, KB_ret, KB_exit, CP2_bool, RP_ret, RP_normal, putA_some, putA_none, ev_t, ev_c, evs, evo, wantA, initA, resA, Tr.get_set, vl, chkOk, cond_true, cond_false, Nat.add_zero, Nat.mul_one, Nat.one_mul, Nat.zero_add, Nat.zero_mul, aggOf, pInt, binA, unA, intA, beq_true, beq_false, Bool.not_true, Bool.not_false, Bool.not_eq_true, and_self, and_true, true_and, ↓reduceIte, reduceIte, Nat.reduceEqDiff, Nat.succ_ne_self, Nat.reduceAdd, Nat.reduceMul, Nat.reduceSub, Nat.reduceBEq, Nat.reduceLT, Nat.reduceLeDiff, Int.cast_ofNat_Int, Int.reduceToNat, Int.reduceLT, Int.reduceLE, Int.reduceGE, Int.reduceGT, Int.reduceEq, Int.reduceNe, Int.reduceAdd, Int.reduceSub, Int.reduceNeg, decide_true, decide_false, Int.toNat_natCast, reduceCtorEq, List.nil_append, List.cons_append, AV.boxy, AV.cells, List.length_cons, List.length_nil, Nat.beq_refl, AOp.cl, ↓OW_guard, ↓DW_guard, KDW_0, KDW_1, KDW_2, OWskip_eq, DWskip_eq, fillA, setAt, DChk, DAt, stepA, ble_dec, beq_dec, Bool.and_self, Bool.and_true, Bool.true_and, Bool.and_false, Bool.false_and, List.take_succ_cons, List.take_zero, List.drop_succ_cons, List.drop_zero, List.take_nil, List.drop_nil, List.append_nil, eqAV, eqAVL, BEq.rfl, eqA, eqD, sameS, Option.map, Option.isNone, addrA, wrap64, gt_iff_lt, ge_iff_le, Int.lt_irrefl, Int.le_refl]
  refine CW.mono (c_IDs t5) ?_
  rintro v H6 ⟨⟨ia, is0, icl, rfl, hid⟩, s6⟩
  have t6 := t5.keep s6.1 (s6.gt t5.lts.1) (s6.gt t5.lts.2.1) (s6.gt t5.lts.2.2)
  rw [gM_ids (by omega)]
  simp -implicitDefEqProofs only [g5, g6, ↓WP_seq, ↓WP_skip, ↓WP_region, ↓WP_dregion, ↓WP_cond, ↓WP_block, ↓WP_exit, ↓WP_ret, ↓OW_nil, ↓OW_cons, ↓DW_nil, ↓DW_cons, ↓XW_call, XW, exA, KO_eq, KD_eq, OptK_some, EvK_some, GW2_true, GW2_false, KS_normal, KS_ret, KS_exit, KB_normal, KB_ret, KB_exit, CP2_bool, RP_ret, RP_normal, putA_some, putA_none, ev_t, ev_c, evs, evo, wantA, initA, resA, Tr.get_set, vl, chkOk, cond_true, cond_false, Nat.add_zero, Nat.mul_one, Nat.one_mul, Nat.zero_add, Nat.zero_mul, aggOf, pInt, binA, unA, intA, beq_true, beq_false, Bool.not_true, Bool.not_false, Bool.not_eq_true, and_self, and_true, true_and, ↓reduceIte, reduceIte, Nat.reduceEqDiff, Nat.succ_ne_self, Nat.reduceAdd, Nat.reduceMul, Nat.reduceSub, Nat.reduceBEq, Nat.reduceLT, Nat.reduceLeDiff, Int.cast_ofNat_Int, Int.reduceToNat, Int.reduceLT, Int.reduceLE, Int.reduceGE, Int.reduceGT, Int.reduceEq, Int.reduceNe, Int.reduceAdd, Int.reduceSub, Int.reduceNeg, decide_true, decide_false, Int.toNat_natCast, reduceCtorEq, List.nil_append, List.cons_append, AV.boxy, AV.cells, List.length_cons, List.length_nil, Nat.beq_refl, AOp.cl, ↓OW_guard, ↓DW_guard, KDW_0, KDW_1, KDW_2, OWskip_eq, DWskip_eq, fillA, setAt, DChk, DAt, stepA, ble_dec, beq_dec, Bool.and_self, Bool.and_true, Bool.true_and, Bool.and_false, Bool.false_and, List.take_succ_cons, List.take_zero, List.drop_succ_cons, List.drop_zero, List.take_nil, List.drop_nil, List.append_nil, eqAV, eqAVL, BEq.rfl, eqA, eqD, sameS, Option.map, Option.isNone, addrA, wrap64, gt_iff_lt, ge_iff_le, Int.lt_irrefl, Int.le_refl]
  refine CW.mono (c_Take t6 3 0) ?_
  rintro u H7 ⟨rfl, -⟩
  rw [gM_last (by omega) (by omega)]
  have hw4 : IntKind.i64.wrap (4 + (k : Int)) = 4 + (k : Int) := wrap64 (by omega) (by omega)
  simp -implicitDefEqProofs only [g5, g6, hw4, ↓WP_seq, ↓WP_skip, ↓WP_region, ↓WP_dregion, ↓WP_cond, ↓WP_block, ↓WP_exit, ↓WP_ret, ↓OW_nil, ↓OW_cons, ↓DW_nil, ↓DW_cons, ↓XW_call, XW, exA, KO_eq, KD_eq, OptK_some, EvK_some, GW2_true, GW2_false, KS_normal, KS_ret, KS_exit, KB_normal, KB_ret, KB_exit, CP2_bool, RP_ret, RP_normal, putA_some, putA_none, ev_t, ev_c, evs, evo, wantA, initA, resA, Tr.get_set, vl, chkOk, cond_true, cond_false, Nat.add_zero, Nat.mul_one, Nat.one_mul, Nat.zero_add, Nat.zero_mul, aggOf, pInt, binA, unA, intA, beq_true, beq_false, Bool.not_true, Bool.not_false, Bool.not_eq_true, and_self, and_true, true_and, ↓reduceIte, reduceIte, Nat.reduceEqDiff, Nat.succ_ne_self, Nat.reduceAdd, Nat.reduceMul, Nat.reduceSub, Nat.reduceBEq, Nat.reduceLT, Nat.reduceLeDiff, Int.cast_ofNat_Int, Int.reduceToNat, Int.reduceLT, Int.reduceLE, Int.reduceGE, Int.reduceGT, Int.reduceEq, Int.reduceNe, Int.reduceAdd, Int.reduceSub, Int.reduceNeg, decide_true, decide_false, Int.toNat_natCast, reduceCtorEq, List.nil_append, List.cons_append, AV.boxy, AV.cells, List.length_cons, List.length_nil, Nat.beq_refl, AOp.cl, ↓OW_guard, ↓DW_guard, KDW_0, KDW_1, KDW_2, OWskip_eq, DWskip_eq, fillA, setAt, DChk, DAt, stepA, ble_dec, beq_dec, Bool.and_self, Bool.and_true, Bool.true_and, Bool.and_false, Bool.false_and, List.take_succ_cons, List.take_zero, List.drop_succ_cons, List.drop_zero, List.take_nil, List.drop_nil, List.append_nil, eqAV, eqAVL, BEq.rfl, eqA, eqD, sameS, Option.map, Option.isNone, addrA, wrap64, gt_iff_lt, ge_iff_le, Int.lt_irrefl, Int.le_refl]
  refine CW.mono (c_known _) ?_
  rintro u H8 ⟨rfl, -⟩
  simp -implicitDefEqProofs only [↓WP_seq, ↓WP_skip, ↓WP_region, ↓WP_dregion, ↓WP_cond, ↓WP_block, ↓WP_exit, ↓WP_ret, ↓OW_nil, ↓OW_cons, ↓DW_nil, ↓DW_cons, ↓XW_call, XW, exA, KO_eq, KD_eq, OptK_some, EvK_some, GW2_true, GW2_false, KS_normal, KS_ret, KS_exit, KB_normal, KB_ret, KB_exit, CP2_bool, RP_ret, RP_normal, putA_some, putA_none, ev_t, ev_c, evs, evo, wantA, initA, resA, Tr.get_set, vl, chkOk, cond_true, cond_false, Nat.add_zero, Nat.mul_one, Nat.one_mul, Nat.zero_add, Nat.zero_mul, aggOf, pInt, binA, unA, intA, beq_true, beq_false, Bool.not_true, Bool.not_false, Bool.not_eq_true, and_self, and_true, true_and, ↓reduceIte, reduceIte, Nat.reduceEqDiff, Nat.succ_ne_self, Nat.reduceAdd, Nat.reduceMul, Nat.reduceSub, Nat.reduceBEq, Nat.reduceLT, Nat.reduceLeDiff, Int.cast_ofNat_Int, Int.reduceToNat, Int.reduceLT, Int.reduceLE, Int.reduceGE, Int.reduceGT, Int.reduceEq, Int.reduceNe, Int.reduceAdd, Int.reduceSub, Int.reduceNeg, decide_true, decide_false, Int.toNat_natCast, reduceCtorEq, List.nil_append, List.cons_append, AV.boxy, AV.cells, List.length_cons, List.length_nil, Nat.beq_refl, AOp.cl, ↓OW_guard, ↓DW_guard, KDW_0, KDW_1, KDW_2, OWskip_eq, DWskip_eq, fillA, setAt, DChk, DAt, stepA, ble_dec, beq_dec, Bool.and_self, Bool.and_true, Bool.true_and, Bool.and_false, Bool.false_and, List.take_succ_cons, List.take_zero, List.drop_succ_cons, List.drop_zero, List.take_nil, List.drop_nil, List.append_nil, eqAV, eqAVL, BEq.rfl, eqA, eqD, sameS, Option.map, Option.isNone, addrA, wrap64, gt_iff_lt, ge_iff_le, Int.lt_irrefl, Int.le_refl]
theorem least_call (w : World) (x : Int) {a : Option Addr} {len cap : Nat} {f : Nat → Int} (hr : RowAt w a len cap 1 ((List.range (len * 1)).map fun j => iv (f j))) : Calls Try.prog 14 #[.int .i64 x, .slice a len cap] w fun e w' => e = .returned (.bool true) ∧ Kp (fun k => k < w.heap.size) w w' := by
  obtain ⟨ρ, H, v, h1, h2, h3, h4, h5, h6⟩ := add_row (HS.empty w) RO.empty hr
  have e : (List.range (len * 1)).map (fun j => iv (f j)) = ivs ((List.range len).map f) := by rw [Nat.mul_one]; simp [ivs]
  rw [e] at h6
  refine law_T (args := [.int .i64 x, v]) (c_least (l := (List.range len).map f) (by simpa using h6) x) h1 ?_
  simp only [RL, R]
  exact ⟨_, _, rfl, rfl, _, _, rfl, h5, rfl⟩
end Go.Proofs.Ytldlolpbnfgdeaa.AA
