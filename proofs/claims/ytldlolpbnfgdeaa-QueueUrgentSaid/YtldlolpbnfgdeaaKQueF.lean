/- The queue: any asks; what comes in. -/
import Derived.Test.YtldlolpbnfgdeaaKQueE
import Derived.OpenShut
import Derived.Deep.Slices
import Derived.SizedLaws
set_option linter.unusedSimpArgs false
set_option linter.unusedVariables false
namespace Go.Proofs.Ytldlolpbnfgdeaa.AA
open Go Go.RowKit
set_option maxRecDepth 100000
attribute [local irreducible] Tr.set
set_option maxHeartbeats 2000000
section
variable {H : AHeap}
theorem c_within (n lo hi : Int) (hd : IntKind.i64.wrap (IntKind.i64.wrap (hi - lo) + 1) ≠ 0) : CW M0 29 [iv n, iv lo, iv hi] H fun v H' => (∃ m, v = iv m) ∧ H' = H := by
  refine CW_of (fn := af29) rfl ?_
  unfold af29
  by_cases h1 : lo ≤ n
  · by_cases h2 : n ≤ hi
    · simp -implicitDefEqProofs only [iv, h1, h2, Bool.false_eq_true, ↓WP_seq, ↓WP_skip, ↓WP_region, ↓WP_dregion, ↓WP_cond, ↓WP_block, ↓WP_exit, ↓WP_ret, ↓OW_nil, ↓OW_cons, ↓DW_nil, ↓DW_cons, ↓XW_call, XW, exA, KO_eq, KD_eq, OptK_some, EvK_some, GW2_true, GW2_false, KS_normal, KS_ret, KS_exit, KB_normal, KB_ret, KB_exit, CP2_bool, RP_ret, RP_normal, putA_some, putA_none, ev_t, ev_c, evs, evo, wantA, initA, resA, Tr.get_set, vl, chkOk, cond_true, cond_false, Nat.add_zero, Nat.mul_one, Nat.one_mul, Nat.zero_add, Nat.zero_mul, aggOf, pInt, binA, unA, intA, beq_true, beq_false, Bool.not_true, Bool.not_false, Bool.not_eq_true, and_self, and_true, true_and, ↓reduceIte, reduceIte, Nat.reduceEqDiff, Nat.succ_ne_self, Nat.reduceAdd, Nat.reduceMul, Nat.reduceSub, Nat.reduceBEq, Nat.reduceLT, Nat.reduceLeDiff, Int.cast_ofNat_Int, Int.reduceToNat, Int.reduceLT, Int.reduceLE, Int.reduceGE, Int.reduceGT, Int.reduceEq, Int.reduceNe, Int.reduceAdd, Int.reduceSub, Int.reduceNeg, decide_true, decide_false, Int.toNat_natCast, reduceCtorEq, List.nil_append, List.cons_append, AV.boxy, AV.cells, List.length_cons, List.length_nil, Nat.beq_refl, AOp.cl, ↓OW_guard, ↓DW_guard, KDW_0, KDW_1, KDW_2, OWskip_eq, DWskip_eq, fillA, setAt, DChk, DAt, stepA, ble_dec, beq_dec, Bool.and_self, Bool.and_true, Bool.true_and, Bool.and_false, Bool.false_and, List.take_succ_cons, List.take_zero, List.drop_succ_cons, List.drop_zero, List.take_nil, List.drop_nil, List.append_nil, eqAV, eqAVL, BEq.rfl, eqA, eqD, sameS, Option.map, Option.isNone, addrA, wrap64, gt_iff_lt, ge_iff_le, Int.lt_irrefl, Int.le_refl]
      exact ⟨_, rfl⟩
    · by_cases h3 : n.tmod (IntKind.i64.wrap (IntKind.i64.wrap (hi - lo) + 1)) < 0
      · simp -implicitDefEqProofs only [iv, h1, h2, h3, hd, Bool.false_eq_true, ↓WP_seq, ↓WP_skip, ↓WP_region, ↓WP_dregion, ↓WP_cond, ↓WP_block, ↓WP_exit, ↓WP_ret, ↓OW_nil, ↓OW_cons, ↓DW_nil, ↓DW_cons, ↓XW_call, XW, exA, KO_eq, KD_eq, OptK_some, EvK_some, GW2_true, GW2_false, KS_normal, KS_ret, KS_exit, KB_normal, KB_ret, KB_exit, CP2_bool, RP_ret, RP_normal, putA_some, putA_none, ev_t, ev_c, evs, evo, wantA, initA, resA, Tr.get_set, vl, chkOk, cond_true, cond_false, Nat.add_zero, Nat.mul_one, Nat.one_mul, Nat.zero_add, Nat.zero_mul, aggOf, pInt, binA, unA, intA, beq_true, beq_false, Bool.not_true, Bool.not_false, Bool.not_eq_true, and_self, and_true, true_and, ↓reduceIte, reduceIte, Nat.reduceEqDiff, Nat.succ_ne_self, Nat.reduceAdd, Nat.reduceMul, Nat.reduceSub, Nat.reduceBEq, Nat.reduceLT, Nat.reduceLeDiff, Int.cast_ofNat_Int, Int.reduceToNat, Int.reduceLT, Int.reduceLE, Int.reduceGE, Int.reduceGT, Int.reduceEq, Int.reduceNe, Int.reduceAdd, Int.reduceSub, Int.reduceNeg, decide_true, decide_false, Int.toNat_natCast, reduceCtorEq, List.nil_append, List.cons_append, AV.boxy, AV.cells, List.length_cons, List.length_nil, Nat.beq_refl, AOp.cl, ↓OW_guard, ↓DW_guard, KDW_0, KDW_1, KDW_2, OWskip_eq, DWskip_eq, fillA, setAt, DChk, DAt, stepA, ble_dec, beq_dec, Bool.and_self, Bool.and_true, Bool.true_and, Bool.and_false, Bool.false_and, List.take_succ_cons, List.take_zero, List.drop_succ_cons, List.drop_zero, List.take_nil, List.drop_nil, List.append_nil, eqAV, eqAVL, BEq.rfl, eqA, eqD, sameS, Option.map, Option.isNone, addrA, wrap64, gt_iff_lt, ge_iff_le, Int.lt_irrefl, Int.le_refl]
        exact ⟨_, rfl⟩
      · simp -implicitDefEqProofs only [iv, h1, h2, h3, hd, Bool.false_eq_true, ↓WP_seq, ↓WP_skip, ↓WP_region, ↓WP_dregion, ↓WP_cond, ↓WP_block, ↓WP_exit, ↓WP_ret, ↓OW_nil, ↓OW_cons, ↓DW_nil, ↓DW_cons, ↓XW_call, XW, exA, KO_eq, KD_eq, OptK_some, EvK_some, GW2_true, GW2_false, KS_normal, KS_ret, KS_exit, KB_normal, KB_ret, KB_exit, CP2_bool, RP_ret, RP_normal, putA_some, putA_none, ev_t, ev_c, evs, evo, wantA, initA, resA, Tr.get_set, vl, chkOk, cond_true, cond_false, Nat.add_zero, Nat.mul_one, Nat.one_mul, Nat.zero_add, Nat.zero_mul, aggOf, pInt, binA, unA, intA, beq_true, beq_false, Bool.not_true, Bool.not_false, Bool.not_eq_true, and_self, and_true, true_and, ↓reduceIte, reduceIte, Nat.reduceEqDiff, Nat.succ_ne_self, Nat.reduceAdd, Nat.reduceMul, Nat.reduceSub, Nat.reduceBEq, Nat.reduceLT, Nat.reduceLeDiff, Int.cast_ofNat_Int, Int.reduceToNat, Int.reduceLT, Int.reduceLE, Int.reduceGE, Int.reduceGT, Int.reduceEq, Int.reduceNe, Int.reduceAdd, Int.reduceSub, Int.reduceNeg, decide_true, decide_false, Int.toNat_natCast, reduceCtorEq, List.nil_append, List.cons_append, AV.boxy, AV.cells, List.length_cons, List.length_nil, Nat.beq_refl, AOp.cl, ↓OW_guard, ↓DW_guard, KDW_0, KDW_1, KDW_2, OWskip_eq, DWskip_eq, fillA, setAt, DChk, DAt, stepA, ble_dec, beq_dec, Bool.and_self, Bool.and_true, Bool.true_and, Bool.and_false, Bool.false_and, List.take_succ_cons, List.take_zero, List.drop_succ_cons, List.drop_zero, List.take_nil, List.drop_nil, List.append_nil, eqAV, eqAVL, BEq.rfl, eqA, eqD, sameS, Option.map, Option.isNone, addrA, wrap64, gt_iff_lt, ge_iff_le, Int.lt_irrefl, Int.le_refl]
        exact ⟨_, rfl⟩
  · by_cases h3 : n.tmod (IntKind.i64.wrap (IntKind.i64.wrap (hi - lo) + 1)) < 0
    · simp -implicitDefEqProofs only [iv, h1, h3, hd, Bool.false_eq_true, ↓WP_seq, ↓WP_skip, ↓WP_region, ↓WP_dregion, ↓WP_cond, ↓WP_block, ↓WP_exit, ↓WP_ret, ↓OW_nil, ↓OW_cons, ↓DW_nil, ↓DW_cons, ↓XW_call, XW, exA, KO_eq, KD_eq, OptK_some, EvK_some, GW2_true, GW2_false, KS_normal, KS_ret, KS_exit, KB_normal, KB_ret, KB_exit, CP2_bool, RP_ret, RP_normal, putA_some, putA_none, ev_t, ev_c, evs, evo, wantA, initA, resA, Tr.get_set, vl, chkOk, cond_true, cond_false, Nat.add_zero, Nat.mul_one, Nat.one_mul, Nat.zero_add, Nat.zero_mul, aggOf, pInt, binA, unA, intA, beq_true, beq_false, Bool.not_true, Bool.not_false, Bool.not_eq_true, and_self, and_true, true_and, ↓reduceIte, reduceIte, Nat.reduceEqDiff, Nat.succ_ne_self, Nat.reduceAdd, Nat.reduceMul, Nat.reduceSub, Nat.reduceBEq, Nat.reduceLT, Nat.reduceLeDiff, Int.cast_ofNat_Int, Int.reduceToNat, Int.reduceLT, Int.reduceLE, Int.reduceGE, Int.reduceGT, Int.reduceEq, Int.reduceNe, Int.reduceAdd, Int.reduceSub, Int.reduceNeg, decide_true, decide_false, Int.toNat_natCast, reduceCtorEq, List.nil_append, List.cons_append, AV.boxy, AV.cells, List.length_cons, List.length_nil, Nat.beq_refl, AOp.cl, ↓OW_guard, ↓DW_guard, KDW_0, KDW_1, KDW_2, OWskip_eq, DWskip_eq, fillA, setAt, DChk, DAt, stepA, ble_dec, beq_dec, Bool.and_self, Bool.and_true, Bool.true_and, Bool.and_false, Bool.false_and, List.take_succ_cons, List.take_zero, List.drop_succ_cons, List.drop_zero, List.take_nil, List.drop_nil, List.append_nil, eqAV, eqAVL, BEq.rfl, eqA, eqD, sameS, Option.map, Option.isNone, addrA, wrap64, gt_iff_lt, ge_iff_le, Int.lt_irrefl, Int.le_refl]
      exact ⟨_, rfl⟩
    · simp -implicitDefEqProofs only [iv, h1, h3, hd, Bool.false_eq_true, ↓WP_seq, ↓WP_skip, ↓WP_region, ↓WP_dregion, ↓WP_cond, ↓WP_block, ↓WP_exit, ↓WP_ret, ↓OW_nil, ↓OW_cons, ↓DW_nil, ↓DW_cons, ↓XW_call, XW, exA, KO_eq, KD_eq, OptK_some, EvK_some, GW2_true, GW2_false, KS_normal, KS_ret, KS_exit, KB_normal, KB_ret, KB_exit, CP2_bool, RP_ret, RP_normal, putA_some, putA_none, ev_t, ev_c, evs, evo, wantA, initA, resA, Tr.get_set, vl, chkOk, cond_true, cond_false, Nat.add_zero, Nat.mul_one, Nat.one_mul, Nat.zero_add, Nat.zero_mul, aggOf, pInt, binA, unA, intA, beq_true, beq_false, Bool.not_true, Bool.not_false, Bool.not_eq_true, and_self, and_true, true_and, ↓reduceIte, reduceIte, Nat.reduceEqDiff, Nat.succ_ne_self, Nat.reduceAdd, Nat.reduceMul, Nat.reduceSub, Nat.reduceBEq, Nat.reduceLT, Nat.reduceLeDiff, Int.cast_ofNat_Int, Int.reduceToNat, Int.reduceLT, Int.reduceLE, Int.reduceGE, Int.reduceGT, Int.reduceEq, Int.reduceNe, Int.reduceAdd, Int.reduceSub, Int.reduceNeg, decide_true, decide_false, Int.toNat_natCast, reduceCtorEq, List.nil_append, List.cons_append, AV.boxy, AV.cells, List.length_cons, List.length_nil, Nat.beq_refl, AOp.cl, ↓OW_guard, ↓DW_guard, KDW_0, KDW_1, KDW_2, OWskip_eq, DWskip_eq, fillA, setAt, DChk, DAt, stepA, ble_dec, beq_dec, Bool.and_self, Bool.and_true, Bool.true_and, Bool.and_false, Bool.false_and, List.take_succ_cons, List.take_zero, List.drop_succ_cons, List.drop_zero, List.take_nil, List.drop_nil, List.append_nil, eqAV, eqAVL, BEq.rfl, eqA, eqD, sameS, Option.map, Option.isNone, addrA, wrap64, gt_iff_lt, ge_iff_le, Int.lt_irrefl, Int.le_refl]
      exact ⟨_, rfl⟩
theorem hd07 : IntKind.i64.wrap (IntKind.i64.wrap (7 - 0) + 1) ≠ 0 := by decide
theorem hd16 : IntKind.i64.wrap (IntKind.i64.wrap (6 - -1) + 1) ≠ 0 := by decide
theorem hd03 : IntKind.i64.wrap (IntKind.i64.wrap (3 - 0) + 1) ≠ 0 := by decide
theorem ask_lds {x o : Nat} {l1 l2 : List Ask} {y : Ask} {i : Nat} (h : Rd H x o (askc (l1 ++ y :: l2))) (hl : l1.length = i) : loadA H x (o + i * 4) 1 = some [.int .i64 y.1] ∧ loadA H x (o + i * 4 + 1) 1 = some [.int .i64 y.2.1] ∧ loadA H x (o + i * 4 + 2) 1 = some [.int .i64 y.2.2.1] ∧ loadA H x (o + i * 4 + 3) 1 = some [.int .i64 y.2.2.2] := by
  have e : askc (l1 ++ y :: l2) = askc l1 ++ [.int .i64 y.1, .int .i64 y.2.1, .int .i64 y.2.2.1, .int .i64 y.2.2.2] ++ askc l2 := by rw [askc_append, List.append_assoc]; rfl
  have r := h.sub (n := 0) (i := i * 4) ⟨askc l1, askc l2, e, by rw [askc_len, hl]⟩
  exact ⟨r.one (j := 0) rfl, r.one (j := 1) rfl, r.one (j := 2) rfl, r.one (j := 3) rfl⟩
theorem c_plays {v : AV} {l : List Ask} (hs : Sv H v l.length (askc l)) (hl : l.length * 32 ≤ 140737488351232) : CW M0 7 [v] H fun u _ => u = .bool true := by
  refine CW_of (fn := af7) rfl ?_
  obtain ⟨a, s0, cl, ev, hrd⟩ := hs
  subst ev
  unfold af7
  simp -implicitDefEqProofs only [↓WP_seq, ↓WP_skip, ↓WP_region, ↓WP_dregion, ↓WP_cond, ↓WP_block, ↓WP_exit, ↓WP_ret, ↓OW_nil, ↓OW_cons, ↓DW_nil, ↓DW_cons, ↓XW_call, XW, exA, KO_eq, KD_eq, OptK_some, EvK_some, GW2_true, GW2_false, KS_normal, KS_ret, KS_exit, KB_normal, KB_ret, KB_exit, CP2_bool, RP_ret, RP_normal, putA_some, putA_none, ev_t, ev_c, evs, evo, wantA, initA, resA, Tr.get_set, vl, chkOk, cond_true, cond_false, Nat.add_zero, Nat.mul_one, Nat.one_mul, Nat.zero_add, Nat.zero_mul, aggOf, pInt, binA, unA, intA, beq_true, beq_false, Bool.not_true, Bool.not_false, Bool.not_eq_true, and_self, and_true, true_and, ↓reduceIte, reduceIte, Nat.reduceEqDiff, Nat.succ_ne_self, Nat.reduceAdd, Nat.reduceMul, Nat.reduceSub, Nat.reduceBEq, Nat.reduceLT, Nat.reduceLeDiff, Int.cast_ofNat_Int, Int.reduceToNat, Int.reduceLT, Int.reduceLE, Int.reduceGE, Int.reduceGT, Int.reduceEq, Int.reduceNe, Int.reduceAdd, Int.reduceSub, Int.reduceNeg, decide_true, decide_false, Int.toNat_natCast, reduceCtorEq, List.nil_append, List.cons_append, AV.boxy, AV.cells, List.length_cons, List.length_nil, Nat.beq_refl, AOp.cl, ↓OW_guard, ↓DW_guard, KDW_0, KDW_1, KDW_2, OWskip_eq, DWskip_eq, fillA, setAt, DChk, DAt, stepA, ble_dec, beq_dec, Bool.and_self, Bool.and_true, Bool.true_and, Bool.and_false, Bool.false_and, List.take_succ_cons, List.take_zero, List.drop_succ_cons, List.drop_zero, List.take_nil, List.drop_nil, List.append_nil, eqAV, eqAVL, BEq.rfl, eqA, eqD, sameS, Option.map, Option.isNone, addrA, wrap64, gt_iff_lt, ge_iff_le, Int.lt_irrefl, Int.le_refl]
  refine WP_loop (fun n fr H' => ∃ (i : Nat) (v3 : AV) (l3 : List Ask) (P3 : Nat → Prop), n + i = l.length ∧ fr.get 0 = some (.slice a s0 l.length cl) ∧ fr.get 3 = some v3 ∧ fr.get 6 = some (.int .i64 l.length) ∧ fr.get 7 = some (.int .i64 i) ∧ Chg H H' none ∧ l3.length = i ∧ Sl H' P3 4 v3 i (askc l3) ∧ ∀ y, P3 y → H.next ≤ y) l.length ?_ ?_
  · refine ⟨0, .slice none 1 0 true, [], fun _ => False, by omega, ?_⟩
    simp -implicitDefEqProofs only [↓WP_seq, ↓WP_skip, ↓WP_region, ↓WP_dregion, ↓WP_cond, ↓WP_block, ↓WP_exit, ↓WP_ret, ↓OW_nil, ↓OW_cons, ↓DW_nil, ↓DW_cons, ↓XW_call, XW, exA, KO_eq, KD_eq, OptK_some, EvK_some, GW2_true, GW2_false, KS_normal, KS_ret, KS_exit, KB_normal, KB_ret, KB_exit, CP2_bool, RP_ret, RP_normal, putA_some, putA_none, ev_t, ev_c, evs, evo, wantA, initA, resA, Tr.get_set, vl, chkOk, cond_true, cond_false, Nat.add_zero, Nat.mul_one, Nat.one_mul, Nat.zero_add, Nat.zero_mul, aggOf, pInt, binA, unA, intA, beq_true, beq_false, Bool.not_true, Bool.not_false, Bool.not_eq_true, and_self, and_true, true_and, ↓reduceIte, reduceIte, Nat.reduceEqDiff, Nat.succ_ne_self, Nat.reduceAdd, Nat.reduceMul, Nat.reduceSub, Nat.reduceBEq, Nat.reduceLT, Nat.reduceLeDiff, Int.cast_ofNat_Int, Int.reduceToNat, Int.reduceLT, Int.reduceLE, Int.reduceGE, Int.reduceGT, Int.reduceEq, Int.reduceNe, Int.reduceAdd, Int.reduceSub, Int.reduceNeg, decide_true, decide_false, Int.toNat_natCast, reduceCtorEq, List.nil_append, List.cons_append, AV.boxy, AV.cells, List.length_cons, List.length_nil, Nat.beq_refl, AOp.cl, ↓OW_guard, ↓DW_guard, KDW_0, KDW_1, KDW_2, OWskip_eq, DWskip_eq, fillA, setAt, DChk, DAt, stepA, ble_dec, beq_dec, Bool.and_self, Bool.and_true, Bool.true_and, Bool.and_false, Bool.false_and, List.take_succ_cons, List.take_zero, List.drop_succ_cons, List.drop_zero, List.take_nil, List.drop_nil, List.append_nil, eqAV, eqAVL, BEq.rfl, eqA, eqD, sameS, Option.map, Option.isNone, addrA, wrap64, gt_iff_lt, ge_iff_le, Int.lt_irrefl, Int.le_refl]
    exact ⟨Chg.refl H, .inl ⟨⟨1, rfl⟩, rfl, rfl⟩, by simp⟩
  · rintro n fr H1 ⟨i, v3, l3, P3, hni, g0, g3, g6, g7, ch, hl3, s3, p3⟩
    by_cases hlt : i < l.length
    · obtain ⟨l1, x, l2, hx, hl1, ht1, ht2⟩ := split_at hlt
      have hlt' : (i : Int) < (l.length : Int) := by omega
      have hi0 : (0 : Int) ≤ i := by omega
      obtain ⟨y, o, ea, e4⟩ := hrd (by omega)
      subst ea
      have r1 : Rd H1 y o (askc l) := e4.keep ch.1 (ch.keep e4.1 (by simp))
      obtain ⟨a0, a1, a2, a3⟩ := ask_lds (r1.congr (congrArg askc hx)) hl1
      have hw : IntKind.i64.wrap ((i : Int) + 1) = ((i + 1 : Nat) : Int) := by rw [wrap64 (by omega) (by omega)]; omega
      have ap : ∀ y : Ask, ∃ H3, appendF (H1.newRow [.int .i64 y.1, .int .i64 y.2.1, .int .i64 y.2.2.1, .int .i64 y.2.2.2]) 4 32 false v3 (.slice (some (H1.next, 0)) 4 1 true) = some (.slice (some (H1.next + 1, 0)) 4 (i + 1) false, H3) ∧ Chg H H3 none ∧ Sl H3 (fun y => y = H1.next + 1) 4 (.slice (some (H1.next + 1, 0)) 4 (i + 1) false) (i + 1) (askc (l3 ++ [y])) := fun y => by
        obtain ⟨H3, e1, e2, e3, e4⟩ := s3.push1 (bytes := 32) (ys := [.int .i64 y.1, .int .i64 y.2.1, .int .i64 y.2.2.1, .int .i64 y.2.2.2]) rfl (by omega) (by omega)
        refine ⟨H3, e1, ch.weak e3 fun z hz => p3 z (SVok.ubD (x := .sl 4 i (askc l3)) s3 hz), ?_⟩
        rw [askc_append]
        exact e4
      simp -implicitDefEqProofs only [g0, g3, g6, g7, hlt', hi0, a0, a1, a2, a3, ↓WP_seq, ↓WP_skip, ↓WP_region, ↓WP_dregion, ↓WP_cond, ↓WP_block, ↓WP_exit, ↓WP_ret, ↓OW_nil, ↓OW_cons, ↓DW_nil, ↓DW_cons, ↓XW_call, XW, exA, KO_eq, KD_eq, OptK_some, EvK_some, GW2_true, GW2_false, KS_normal, KS_ret, KS_exit, KB_normal, KB_ret, KB_exit, CP2_bool, RP_ret, RP_normal, putA_some, putA_none, ev_t, ev_c, evs, evo, wantA, initA, resA, Tr.get_set, vl, chkOk, cond_true, cond_false, Nat.add_zero, Nat.mul_one, Nat.one_mul, Nat.zero_add, Nat.zero_mul, aggOf, pInt, binA, unA, intA, beq_true, beq_false, Bool.not_true, Bool.not_false, Bool.not_eq_true, and_self, and_true, true_and, ↓reduceIte, reduceIte, Nat.reduceEqDiff, Nat.succ_ne_self, Nat.reduceAdd, Nat.reduceMul, Nat.reduceSub, Nat.reduceBEq, Nat.reduceLT, Nat.reduceLeDiff, Int.cast_ofNat_Int, Int.reduceToNat, Int.reduceLT, Int.reduceLE, Int.reduceGE, Int.reduceGT, Int.reduceEq, Int.reduceNe, Int.reduceAdd, Int.reduceSub, Int.reduceNeg, decide_true, decide_false, Int.toNat_natCast, reduceCtorEq, List.nil_append, List.cons_append, AV.boxy, AV.cells, List.length_cons, List.length_nil, Nat.beq_refl, AOp.cl, ↓OW_guard, ↓DW_guard, KDW_0, KDW_1, KDW_2, OWskip_eq, DWskip_eq, fillA, setAt, DChk, DAt, stepA, ble_dec, beq_dec, Bool.and_self, Bool.and_true, Bool.true_and, Bool.and_false, Bool.false_and, List.take_succ_cons, List.take_zero, List.drop_succ_cons, List.drop_zero, List.take_nil, List.drop_nil, List.append_nil, eqAV, eqAVL, BEq.rfl, eqA, eqD, sameS, Option.map, Option.isNone, addrA, wrap64, gt_iff_lt, ge_iff_le, Int.lt_irrefl, Int.le_refl]
      refine CW.mono (c_within x.1 0 7 hd07) ?_
      rintro u H2 ⟨⟨m1, rfl⟩, rfl⟩
      simp -implicitDefEqProofs only [g0, g3, g6, g7, hlt', hi0, a0, a1, a2, a3, iv, ↓WP_seq, ↓WP_skip, ↓WP_region, ↓WP_dregion, ↓WP_cond, ↓WP_block, ↓WP_exit, ↓WP_ret, ↓OW_nil, ↓OW_cons, ↓DW_nil, ↓DW_cons, ↓XW_call, XW, exA, KO_eq, KD_eq, OptK_some, EvK_some, GW2_true, GW2_false, KS_normal, KS_ret, KS_exit, KB_normal, KB_ret, KB_exit, CP2_bool, RP_ret, RP_normal, putA_some, putA_none, ev_t, ev_c, evs, evo, wantA, initA, resA, Tr.get_set, vl, chkOk, cond_true, cond_false, Nat.add_zero, Nat.mul_one, Nat.one_mul, Nat.zero_add, Nat.zero_mul, aggOf, pInt, binA, unA, intA, beq_true, beq_false, Bool.not_true, Bool.not_false, Bool.not_eq_true, and_self, and_true, true_and, ↓reduceIte, reduceIte, Nat.reduceEqDiff, Nat.succ_ne_self, Nat.reduceAdd, Nat.reduceMul, Nat.reduceSub, Nat.reduceBEq, Nat.reduceLT, Nat.reduceLeDiff, Int.cast_ofNat_Int, Int.reduceToNat, Int.reduceLT, Int.reduceLE, Int.reduceGE, Int.reduceGT, Int.reduceEq, Int.reduceNe, Int.reduceAdd, Int.reduceSub, Int.reduceNeg, decide_true, decide_false, Int.toNat_natCast, reduceCtorEq, List.nil_append, List.cons_append, AV.boxy, AV.cells, List.length_cons, List.length_nil, Nat.beq_refl, AOp.cl, ↓OW_guard, ↓DW_guard, KDW_0, KDW_1, KDW_2, OWskip_eq, DWskip_eq, fillA, setAt, DChk, DAt, stepA, ble_dec, beq_dec, Bool.and_self, Bool.and_true, Bool.true_and, Bool.and_false, Bool.false_and, List.take_succ_cons, List.take_zero, List.drop_succ_cons, List.drop_zero, List.take_nil, List.drop_nil, List.append_nil, eqAV, eqAVL, BEq.rfl, eqA, eqD, sameS, Option.map, Option.isNone, addrA, wrap64, gt_iff_lt, ge_iff_le, Int.lt_irrefl, Int.le_refl]
      refine CW.mono (c_within x.2.1 (-1) 6 hd16) ?_
      rintro u H3 ⟨⟨m2, rfl⟩, rfl⟩
      simp -implicitDefEqProofs only [g0, g3, g6, g7, hlt', hi0, a0, a1, a2, a3, iv, ↓WP_seq, ↓WP_skip, ↓WP_region, ↓WP_dregion, ↓WP_cond, ↓WP_block, ↓WP_exit, ↓WP_ret, ↓OW_nil, ↓OW_cons, ↓DW_nil, ↓DW_cons, ↓XW_call, XW, exA, KO_eq, KD_eq, OptK_some, EvK_some, GW2_true, GW2_false, KS_normal, KS_ret, KS_exit, KB_normal, KB_ret, KB_exit, CP2_bool, RP_ret, RP_normal, putA_some, putA_none, ev_t, ev_c, evs, evo, wantA, initA, resA, Tr.get_set, vl, chkOk, cond_true, cond_false, Nat.add_zero, Nat.mul_one, Nat.one_mul, Nat.zero_add, Nat.zero_mul, aggOf, pInt, binA, unA, intA, beq_true, beq_false, Bool.not_true, Bool.not_false, Bool.not_eq_true, and_self, and_true, true_and, ↓reduceIte, reduceIte, Nat.reduceEqDiff, Nat.succ_ne_self, Nat.reduceAdd, Nat.reduceMul, Nat.reduceSub, Nat.reduceBEq, Nat.reduceLT, Nat.reduceLeDiff, Int.cast_ofNat_Int, Int.reduceToNat, Int.reduceLT, Int.reduceLE, Int.reduceGE, Int.reduceGT, Int.reduceEq, Int.reduceNe, Int.reduceAdd, Int.reduceSub, Int.reduceNeg, decide_true, decide_false, Int.toNat_natCast, reduceCtorEq, List.nil_append, List.cons_append, AV.boxy, AV.cells, List.length_cons, List.length_nil, Nat.beq_refl, AOp.cl, ↓OW_guard, ↓DW_guard, KDW_0, KDW_1, KDW_2, OWskip_eq, DWskip_eq, fillA, setAt, DChk, DAt, stepA, ble_dec, beq_dec, Bool.and_self, Bool.and_true, Bool.true_and, Bool.and_false, Bool.false_and, List.take_succ_cons, List.take_zero, List.drop_succ_cons, List.drop_zero, List.take_nil, List.drop_nil, List.append_nil, eqAV, eqAVL, BEq.rfl, eqA, eqD, sameS, Option.map, Option.isNone, addrA, wrap64, gt_iff_lt, ge_iff_le, Int.lt_irrefl, Int.le_refl]
      refine CW.mono (c_within x.2.2.1 0 3 hd03) ?_
      rintro u H4 ⟨⟨m3, rfl⟩, rfl⟩
      simp -implicitDefEqProofs only [g0, g3, g6, g7, hlt', hi0, a0, a1, a2, a3, iv, ↓WP_seq, ↓WP_skip, ↓WP_region, ↓WP_dregion, ↓WP_cond, ↓WP_block, ↓WP_exit, ↓WP_ret, ↓OW_nil, ↓OW_cons, ↓DW_nil, ↓DW_cons, ↓XW_call, XW, exA, KO_eq, KD_eq, OptK_some, EvK_some, GW2_true, GW2_false, KS_normal, KS_ret, KS_exit, KB_normal, KB_ret, KB_exit, CP2_bool, RP_ret, RP_normal, putA_some, putA_none, ev_t, ev_c, evs, evo, wantA, initA, resA, Tr.get_set, vl, chkOk, cond_true, cond_false, Nat.add_zero, Nat.mul_one, Nat.one_mul, Nat.zero_add, Nat.zero_mul, aggOf, pInt, binA, unA, intA, beq_true, beq_false, Bool.not_true, Bool.not_false, Bool.not_eq_true, and_self, and_true, true_and, ↓reduceIte, reduceIte, Nat.reduceEqDiff, Nat.succ_ne_self, Nat.reduceAdd, Nat.reduceMul, Nat.reduceSub, Nat.reduceBEq, Nat.reduceLT, Nat.reduceLeDiff, Int.cast_ofNat_Int, Int.reduceToNat, Int.reduceLT, Int.reduceLE, Int.reduceGE, Int.reduceGT, Int.reduceEq, Int.reduceNe, Int.reduceAdd, Int.reduceSub, Int.reduceNeg, decide_true, decide_false, Int.toNat_natCast, reduceCtorEq, List.nil_append, List.cons_append, AV.boxy, AV.cells, List.length_cons, List.length_nil, Nat.beq_refl, AOp.cl, ↓OW_guard, ↓DW_guard, KDW_0, KDW_1, KDW_2, OWskip_eq, DWskip_eq, fillA, setAt, DChk, DAt, stepA, ble_dec, beq_dec, Bool.and_self, Bool.and_true, Bool.true_and, Bool.and_false, Bool.false_and, List.take_succ_cons, List.take_zero, List.drop_succ_cons, List.drop_zero, List.take_nil, List.drop_nil, List.append_nil, eqAV, eqAVL, BEq.rfl, eqA, eqD, sameS, Option.map, Option.isNone, addrA, wrap64, gt_iff_lt, ge_iff_le, Int.lt_irrefl, Int.le_refl]
      refine optK_of (ap (_, _, _, _)) ?_
      rintro H5 ⟨hc5, hs5⟩
      simp -implicitDefEqProofs only [g0, g3, g6, g7, hlt', hi0, a0, a1, a2, a3, iv, hw, ↓WP_seq, ↓WP_skip, ↓WP_region, ↓WP_dregion, ↓WP_cond, ↓WP_block, ↓WP_exit, ↓WP_ret, ↓OW_nil, ↓OW_cons, ↓DW_nil, ↓DW_cons, ↓XW_call, XW, exA, KO_eq, KD_eq, OptK_some, EvK_some, GW2_true, GW2_false, KS_normal, KS_ret, KS_exit, KB_normal, KB_ret, KB_exit, CP2_bool, RP_ret, RP_normal, putA_some, putA_none, ev_t, ev_c, evs, evo, wantA, initA, resA, Tr.get_set, vl, chkOk, cond_true, cond_false, Nat.add_zero, Nat.mul_one, Nat.one_mul, Nat.zero_add, Nat.zero_mul, aggOf, pInt, binA, unA, intA, beq_true, beq_false, Bool.not_true, Bool.not_false, Bool.not_eq_true, and_self, and_true, true_and, ↓reduceIte, reduceIte, Nat.reduceEqDiff, Nat.succ_ne_self, Nat.reduceAdd, Nat.reduceMul, Nat.reduceSub, Nat.reduceBEq, Nat.reduceLT, Nat.reduceLeDiff, Int.cast_ofNat_Int, Int.reduceToNat, Int.reduceLT, Int.reduceLE, Int.reduceGE, Int.reduceGT, Int.reduceEq, Int.reduceNe, Int.reduceAdd, Int.reduceSub, Int.reduceNeg, decide_true, decide_false, Int.toNat_natCast, reduceCtorEq, List.nil_append, List.cons_append, AV.boxy, AV.cells, List.length_cons, List.length_nil, Nat.beq_refl, AOp.cl, ↓OW_guard, ↓DW_guard, KDW_0, KDW_1, KDW_2, OWskip_eq, DWskip_eq, fillA, setAt, DChk, DAt, stepA, ble_dec, beq_dec, Bool.and_self, Bool.and_true, Bool.true_and, Bool.and_false, Bool.false_and, List.take_succ_cons, List.take_zero, List.drop_succ_cons, List.drop_zero, List.take_nil, List.drop_nil, List.append_nil, eqAV, eqAVL, BEq.rfl, eqA, eqD, sameS, Option.map, Option.isNone, addrA, wrap64, gt_iff_lt, ge_iff_le, Int.lt_irrefl, Int.le_refl]
      have hn := ch.1
      exact ⟨n - 1, by omega, i + 1, _, _, _, by omega, rfl, rfl, hc5, by simp [hl3], hs5, fun y hy => by omega⟩
    · have hlt' : ¬ (i : Int) < (l.length : Int) := by omega
      have hi : i = l.length := by omega
      have hsv : Sv H1 (.slice a s0 l.length cl) l.length (askc l) := Sv.keep (H := H) ⟨a, s0, cl, rfl, hrd⟩ ch
      simp -implicitDefEqProofs only [g0, g3, g6, g7, hlt', Bool.false_eq_true, ↓WP_seq, ↓WP_skip, ↓WP_region, ↓WP_dregion, ↓WP_cond, ↓WP_block, ↓WP_exit, ↓WP_ret, ↓OW_nil, ↓OW_cons, ↓DW_nil, ↓DW_cons, ↓XW_call, XW, exA, KO_eq, KD_eq, OptK_some, EvK_some, GW2_true, GW2_false, KS_normal, KS_ret, KS_exit, KB_normal, KB_ret, KB_exit, CP2_bool, RP_ret, RP_normal, putA_some, putA_none, ev_t, ev_c, evs, evo, wantA, initA, resA, Tr.get_set, vl, chkOk, cond_true, cond_false, Nat.add_zero, Nat.mul_one, Nat.one_mul, Nat.zero_add, Nat.zero_mul, aggOf, pInt, binA, unA, intA, beq_true, beq_false, Bool.not_true, Bool.not_false, Bool.not_eq_true, and_self, and_true, true_and, ↓reduceIte, reduceIte, Nat.reduceEqDiff, Nat.succ_ne_self, Nat.reduceAdd, Nat.reduceMul, Nat.reduceSub, Nat.reduceBEq, Nat.reduceLT, Nat.reduceLeDiff, Int.cast_ofNat_Int, Int.reduceToNat, Int.reduceLT, Int.reduceLE, Int.reduceGE, Int.reduceGT, Int.reduceEq, Int.reduceNe, Int.reduceAdd, Int.reduceSub, Int.reduceNeg, decide_true, decide_false, Int.toNat_natCast, reduceCtorEq, List.nil_append, List.cons_append, AV.boxy, AV.cells, List.length_cons, List.length_nil, Nat.beq_refl, AOp.cl, ↓OW_guard, ↓DW_guard, KDW_0, KDW_1, KDW_2, OWskip_eq, DWskip_eq, fillA, setAt, DChk, DAt, stepA, ble_dec, beq_dec, Bool.and_self, Bool.and_true, Bool.true_and, Bool.and_false, Bool.false_and, List.take_succ_cons, List.take_zero, List.drop_succ_cons, List.drop_zero, List.take_nil, List.drop_nil, List.append_nil, eqAV, eqAVL, BEq.rfl, eqA, eqD, sameS, Option.map, Option.isNone, addrA, wrap64, gt_iff_lt, ge_iff_le, Int.lt_irrefl, Int.le_refl]
      refine CW.mono (c_play (l := l) hsv (by omega)) ?_
      rintro u H2 ⟨rfl, ch2⟩
      simp -implicitDefEqProofs only [g0, g3, g6, g7, ↓WP_seq, ↓WP_skip, ↓WP_region, ↓WP_dregion, ↓WP_cond, ↓WP_block, ↓WP_exit, ↓WP_ret, ↓OW_nil, ↓OW_cons, ↓DW_nil, ↓DW_cons, ↓XW_call, XW, exA, KO_eq, KD_eq, OptK_some, EvK_some, GW2_true, GW2_false, KS_normal, KS_ret, KS_exit, KB_normal, KB_ret, KB_exit, CP2_bool, RP_ret, RP_normal, putA_some, putA_none, ev_t, ev_c, evs, evo, wantA, initA, resA, Tr.get_set, vl, chkOk, cond_true, cond_false, Nat.add_zero, Nat.mul_one, Nat.one_mul, Nat.zero_add, Nat.zero_mul, aggOf, pInt, binA, unA, intA, beq_true, beq_false, Bool.not_true, Bool.not_false, Bool.not_eq_true, and_self, and_true, true_and, ↓reduceIte, reduceIte, Nat.reduceEqDiff, Nat.succ_ne_self, Nat.reduceAdd, Nat.reduceMul, Nat.reduceSub, Nat.reduceBEq, Nat.reduceLT, Nat.reduceLeDiff, Int.cast_ofNat_Int, Int.reduceToNat, Int.reduceLT, Int.reduceLE, Int.reduceGE, Int.reduceGT, Int.reduceEq, Int.reduceNe, Int.reduceAdd, Int.reduceSub, Int.reduceNeg, decide_true, decide_false, Int.toNat_natCast, reduceCtorEq, List.nil_append, List.cons_append, AV.boxy, AV.cells, List.length_cons, List.length_nil, Nat.beq_refl, AOp.cl, ↓OW_guard, ↓DW_guard, KDW_0, KDW_1, KDW_2, OWskip_eq, DWskip_eq, fillA, setAt, DChk, DAt, stepA, ble_dec, beq_dec, Bool.and_self, Bool.and_true, Bool.true_and, Bool.and_false, Bool.false_and, List.take_succ_cons, List.take_zero, List.drop_succ_cons, List.drop_zero, List.take_nil, List.drop_nil, List.append_nil, eqAV, eqAVL, BEq.rfl, eqA, eqD, sameS, Option.map, Option.isNone, addrA, wrap64, gt_iff_lt, ge_iff_le, Int.lt_irrefl, Int.le_refl]
      refine CW.mono (c_play (l := l3) (Sv.keep (by rw [hl3]; exact s3.sv) ch2) (by omega)) ?_
      rintro u H3 ⟨rfl, ch3⟩
      simp -implicitDefEqProofs only [g0, g3, g6, g7, ↓WP_seq, ↓WP_skip, ↓WP_region, ↓WP_dregion, ↓WP_cond, ↓WP_block, ↓WP_exit, ↓WP_ret, ↓OW_nil, ↓OW_cons, ↓DW_nil, ↓DW_cons, ↓XW_call, XW, exA, KO_eq, KD_eq, OptK_some, EvK_some, GW2_true, GW2_false, KS_normal, KS_ret, KS_exit, KB_normal, KB_ret, KB_exit, CP2_bool, RP_ret, RP_normal, putA_some, putA_none, ev_t, ev_c, evs, evo, wantA, initA, resA, Tr.get_set, vl, chkOk, cond_true, cond_false, Nat.add_zero, Nat.mul_one, Nat.one_mul, Nat.zero_add, Nat.zero_mul, aggOf, pInt, binA, unA, intA, beq_true, beq_false, Bool.not_true, Bool.not_false, Bool.not_eq_true, and_self, and_true, true_and, ↓reduceIte, reduceIte, Nat.reduceEqDiff, Nat.succ_ne_self, Nat.reduceAdd, Nat.reduceMul, Nat.reduceSub, Nat.reduceBEq, Nat.reduceLT, Nat.reduceLeDiff, Int.cast_ofNat_Int, Int.reduceToNat, Int.reduceLT, Int.reduceLE, Int.reduceGE, Int.reduceGT, Int.reduceEq, Int.reduceNe, Int.reduceAdd, Int.reduceSub, Int.reduceNeg, decide_true, decide_false, Int.toNat_natCast, reduceCtorEq, List.nil_append, List.cons_append, AV.boxy, AV.cells, List.length_cons, List.length_nil, Nat.beq_refl, AOp.cl, ↓OW_guard, ↓DW_guard, KDW_0, KDW_1, KDW_2, OWskip_eq, DWskip_eq, fillA, setAt, DChk, DAt, stepA, ble_dec, beq_dec, Bool.and_self, Bool.and_true, Bool.true_and, Bool.and_false, Bool.false_and, List.take_succ_cons, List.take_zero, List.drop_succ_cons, List.drop_zero, List.take_nil, List.drop_nil, List.append_nil, eqAV, eqAVL, BEq.rfl, eqA, eqD, sameS, Option.map, Option.isNone, addrA, wrap64, gt_iff_lt, ge_iff_le, Int.lt_irrefl, Int.le_refl]
      refine CW.mono c_known ?_
      rintro u H4 ⟨rfl, rfl⟩
      simp -implicitDefEqProofs only [↓WP_seq, ↓WP_skip, ↓WP_region, ↓WP_dregion, ↓WP_cond, ↓WP_block, ↓WP_exit, ↓WP_ret, ↓OW_nil, ↓OW_cons, ↓DW_nil, ↓DW_cons, ↓XW_call, XW, exA, KO_eq, KD_eq, OptK_some, EvK_some, GW2_true, GW2_false, KS_normal, KS_ret, KS_exit, KB_normal, KB_ret, KB_exit, CP2_bool, RP_ret, RP_normal, putA_some, putA_none, ev_t, ev_c, evs, evo, wantA, initA, resA, Tr.get_set, vl, chkOk, cond_true, cond_false, Nat.add_zero, Nat.mul_one, Nat.one_mul, Nat.zero_add, Nat.zero_mul, aggOf, pInt, binA, unA, intA, beq_true, beq_false, Bool.not_true, Bool.not_false, Bool.not_eq_true, and_self, and_true, true_and, ↓reduceIte, reduceIte, Nat.reduceEqDiff, Nat.succ_ne_self, Nat.reduceAdd, Nat.reduceMul, Nat.reduceSub, Nat.reduceBEq, Nat.reduceLT, Nat.reduceLeDiff, Int.cast_ofNat_Int, Int.reduceToNat, Int.reduceLT, Int.reduceLE, Int.reduceGE, Int.reduceGT, Int.reduceEq, Int.reduceNe, Int.reduceAdd, Int.reduceSub, Int.reduceNeg, decide_true, decide_false, Int.toNat_natCast, reduceCtorEq, List.nil_append, List.cons_append, AV.boxy, AV.cells, List.length_cons, List.length_nil, Nat.beq_refl, AOp.cl, ↓OW_guard, ↓DW_guard, KDW_0, KDW_1, KDW_2, OWskip_eq, DWskip_eq, fillA, setAt, DChk, DAt, stepA, ble_dec, beq_dec, Bool.and_self, Bool.and_true, Bool.true_and, Bool.and_false, Bool.false_and, List.take_succ_cons, List.take_zero, List.drop_succ_cons, List.drop_zero, List.take_nil, List.drop_nil, List.append_nil, eqAV, eqAVL, BEq.rfl, eqA, eqD, sameS, Option.map, Option.isNone, addrA, wrap64, gt_iff_lt, ge_iff_le, Int.lt_irrefl, Int.le_refl]
end
end Go.Proofs.Ytldlolpbnfgdeaa.AA
namespace Go.Proofs.Ytldlolpbnfgdeaa.AA
open Go Go.RowKit Go.WideShapes
/-! What comes in: rows that are only looked at. -/
def RO (H : AHeap) : Prop := (∀ b c n par, H.get b ≠ .cells c n true par) ∧ ∀ b es k, H.get b ≠ .map es k
theorem RO.empty : RO ⟨0, .nil⟩ := by
  have hg : ∀ b, (⟨0, .nil⟩ : AHeap).get b = .dead := fun b => by simp [AHeap.get, Tr.get]
  exact ⟨fun b c n par h => (by rw [hg] at h; cases h), fun b es k h => (by rw [hg] at h; cases h)⟩
section
variable {Z : Nat → Prop} {ρ : Rho} {H : AHeap} {w : World}
theorem Chg.new (H : AHeap) (x : ABlk) : Chg H (H.new x) none := ⟨by simp [next_new], fun y hy => ⟨.inl (by rw [get_new, if_neg (by omega)]), fun _ => by rw [get_new, if_neg (by omega)]⟩⟩
theorem add_dead (h : HS Z ρ H w) (x : Nat × Nat × Nat) (ro : RO H) : HS Z (bump ρ H.next x) (H.new .dead) w ∧ RO (H.new .dead) := by
  have hold : ∀ b, b ≠ H.next → bump ρ H.next x b = ρ b := fun b hb => by simp [bump, hb]
  have hext := h.ext_bump x
  have hne : ∀ b y, ρ b = some y → b ≠ H.next := fun b y hb e => by have := (h.dom b y hb).1; omega
  have ro' : RO (H.new .dead) := by
    refine ⟨fun b c n par hb => ?_, fun b es k hb => ?_⟩
    · rw [get_new] at hb
      split at hb
      · cases hb
      · exact ro.1 b c n par hb
    · rw [get_new] at hb
      split at hb
      · cases hb
      · exact ro.2 b es k hb
  refine ⟨⟨fun b y hb => ⟨?_, trivial⟩, fun b c n own par hb => ?_, fun b es k hb => absurd hb (ro'.2 b es k), fun b c n par hb => absurd hb (ro'.1 b c n par), fun b es k hb => absurd hb (ro'.2 b es k), h.zb⟩, ro'⟩
  · show b < H.next + 1
    by_cases e : b = H.next
    · omega
    · rw [hold b e] at hb
      have := (h.dom b y hb).1; omega
  · rw [get_new] at hb
    split at hb
    · cases hb
    · obtain ⟨g, o, N, h1, h2, h3, C, e, fz, h4, h5, h6, h7⟩ := h.cells b c n own par hb
      refine ⟨g, o, N, hext _ _ h1, h2, h3, C, e, fz, h4, h5, h6, fun i hi => ?_⟩
      obtain ⟨a, v, e1, e2, e3, e4⟩ := h7 i hi
      exact ⟨a, v, e1, e2, e3.mono' hext, e4⟩
theorem add_cells (h : HS Z ρ H w) (ro : RO H) {b off : Nat} {C : Array Value} {e : TypeId} {fz : Nat × Nat} (hg : w.heap[b]? = some (.cells C e fz)) {cs : List AV} (hl : off + cs.length ≤ C.size)
    (hc : ∀ (j : Nat) v, cs[j]? = some v → ∃ k n, v = .int k n ∧ C[off + j]? = some (.int k n)) : HS Z (bump ρ H.next (b, off, C.size)) (H.new (.cells (ofL cs 0 .nil) cs.length false [])) w ∧ RO (H.new (.cells (ofL cs 0 .nil) cs.length false [])) := by
  have hold : ∀ b', b' ≠ H.next → bump ρ H.next (b, off, C.size) b' = ρ b' := fun b' hb => by simp [bump, hb]
  have hself : bump ρ H.next (b, off, C.size) H.next = some (b, off, C.size) := by simp [bump]
  have hext := h.ext_bump (b, off, C.size)
  have ro' : RO (H.new (.cells (ofL cs 0 .nil) cs.length false [])) := by
    refine ⟨fun b c n par hb => ?_, fun b es k hb => ?_⟩
    · rw [get_new] at hb
      split at hb
      · cases hb
      · exact ro.1 b c n par hb
    · rw [get_new] at hb
      split at hb
      · cases hb
      · exact ro.2 b es k hb
  refine ⟨⟨fun b' y hb => ⟨?_, trivial⟩, fun b' c n own par hb => ?_, fun b es k hb => absurd hb (ro'.2 b es k), fun b c n par hb => absurd hb (ro'.1 b c n par), fun b es k hb => absurd hb (ro'.2 b es k), h.zb⟩, ro'⟩
  · show b' < H.next + 1
    by_cases e : b' = H.next
    · omega
    · rw [hold b' e] at hb
      have := (h.dom b' y hb).1; omega
  · rw [get_new] at hb
    split at hb
    · rename_i e'
      subst e'
      cases hb
      refine ⟨b, off, C.size, hself, hl, fun h => (by cases h), C, e, fz, hg, rfl, fun h => (by cases h), fun i hi => ?_⟩
      obtain ⟨k, n, q1, q2⟩ := hc i cs[i] (List.getElem?_eq_getElem hi)
      refine ⟨.int k n, .int k n, ?_, q2, by simp only [R], rfl⟩
      rw [get_ofL, if_pos (by omega), Nat.sub_zero, List.getElem?_eq_getElem hi, q1]
    · obtain ⟨g, o, N, h1, h2, h3, C, e, fz, h4, h5, h6, h7⟩ := h.cells b' c n own par hb
      refine ⟨g, o, N, hext _ _ h1, h2, h3, C, e, fz, h4, h5, h6, fun i hi => ?_⟩
      obtain ⟨a, v, e1, e2, e3, e4⟩ := h7 i hi
      exact ⟨a, v, e1, e2, e3.mono' hext, e4⟩
/-- A row of the world's, taken in. -/
def RowAt (w : World) (a : Option Addr) (len cap s : Nat) (cs : List AV) : Prop := cs.length = len * s ∧ ((a = none ∧ len = 0 ∧ cap = 0) ∨ (∃ ad, a = some ad ∧ len = 0 ∧ cap = 0) ∨ ∃ b off C e fz, a = some ⟨b, off, none⟩ ∧ w.heap[b]? = some (.cells C e fz) ∧ len ≤ cap ∧ off + cap * s ≤ C.size ∧ ∀ (j : Nat) v, cs[j]? = some v → ∃ k n, v = .int k n ∧ C[off + j]? = some (.int k n))
theorem add_row (h : HS Z ρ H w) (ro : RO H) {a : Option Addr} {len cap s : Nat} {cs : List AV} (hr : RowAt w a len cap s cs) : ∃ ρ' H' v, HS Z ρ' H' w ∧ RO H' ∧ Ext ρ ρ' ∧ Chg H H' none ∧ R ρ' v (.slice a len cap) ∧ Sv H' v len cs := by
  obtain ⟨hl, ⟨rfl, rfl, rfl⟩ | ⟨ad, rfl, rfl, rfl⟩ | ⟨b, off, C, e, fz, rfl, hg, hle, hN, hc⟩⟩ := hr
  · exact ⟨ρ, H, .slice none 1 0 true, h, ro, Ext.refl _, Chg.refl H, by simp [R], none, 1, true, rfl, fun h => absurd rfl h⟩
  · obtain ⟨h1, h2⟩ := add_dead h (0, 0, 0) ro
    refine ⟨_, _, .slice (some (H.next, 0)) s 0 true, h1, h2, h.ext_bump _, Chg.new H _, ?_, some (H.next, 0), s, true, rfl, fun h => absurd rfl h⟩
    simp only [R]
    exact ⟨0, 0, 0, ad, 0, by simp [bump], rfl, Nat.le_refl _, fun _ => rfl, by omega, fun h => absurd rfl h⟩
  · have hsl : len * s ≤ cap * s := Nat.mul_le_mul_right s hle
    obtain ⟨h1, h2⟩ := add_cells h ro hg (cs := cs) (by omega) hc
    refine ⟨_, _, .slice (some (H.next, 0)) s len false, h1, h2, h.ext_bump _, Chg.new H _, ?_, some (H.next, 0), s, false, rfl, fun _ => ⟨H.next, 0, rfl, ?_⟩⟩
    · simp only [R]
      exact ⟨b, off, C.size, ⟨b, off, none⟩, cap, by simp [bump], rfl, hle, fun h => (by cases h), by omega, fun _ => rfl⟩
    · refine ⟨by simp [next_new], ofL cs 0 .nil, cs.length, false, [], by rw [get_new, if_pos rfl], by omega, fun j v hj => ?_⟩
      have := (List.getElem?_eq_some_iff.1 hj).1
      rw [get_ofL, if_pos (by omega)]
      simpa using hj
end
section
variable {T : Type} {enc : TypeId × Value → T} {P : Program} {w : World}
theorem cell_at {b off : Nat} {u : Value} (h : w.cell? ⟨b, off, none⟩ = some u) : ∃ C e fz, w.heap[b]? = some (.cells C e fz) ∧ C[off]? = some u := by
  unfold World.cell? at h
  simp only [Option.isSome_none, Bool.false_eq_true, if_false] at h
  split at h
  · rename_i C e fz hg
    exact ⟨C, e, fz, hg, h⟩
  · cases h
theorem add_none' {a : Addr} {b off : Nat} (h : a = ⟨b, off, none⟩) (i : Nat) : a.add i = ⟨b, off + i, none⟩ := by
  subst h
  unfold Addr.add
  split
  · rename_i h0; subst h0; rfl
  · rfl
/-- Rows of elements that are integers, cell by cell. -/
theorem row_of {t e : TypeId} {fuel s : Nat} {x : DataW T × List MemPlace} {held : Bool} (ht : P.underlying t = some (.slice e)) (hc : P.cellsOf e = s) (hs : 0 < s)
    (each : ∀ n cs y, DataW.trod enc P w 0 (fun _ => true) held n e cs = some y → cs.length = s → ∀ j, j < s → ∃ z : Int, cs[j]? = some (.int .i64 z))
    {a : Option Addr} {len cap : Nat} (h : DataW.trod enc P w 0 (fun _ => true) held fuel t [.slice a len cap] = some x) :
    (∃ f : Nat → Int, RowAt w a len cap s ((List.range (len * s)).map fun j => iv (f j))) ∧ ((x.1 = .nil ∧ cap = 0) ∨ ∃ elems spare, x.1 = .slice elems spare ∧ elems.length + spare.length = cap) ∧ len ≤ cap := by
  rcases Go.Deep.open_slice ht h with ⟨hcs, rfl⟩ | ⟨ad, ln, c, m, n, D, Pl, hcs, -, hl, hm, hmm, rfl, hel⟩
  · simp at hcs
    obtain ⟨rfl, rfl, rfl⟩ := hcs
    exact ⟨⟨fun _ => 0, by simp, .inl ⟨rfl, rfl, rfl⟩⟩, .inl ⟨rfl, rfl⟩, Nat.le_refl _⟩
  · simp at hcs
    obtain ⟨rfl, rfl, rfl⟩ := hcs
    have hmc : m = cap := by rw [hmm, if_pos rfl]
    subst hmc
    refine ⟨?_, .inr ⟨_, _, rfl, by simp; omega⟩, hl⟩
    by_cases hcap : m = 0
    · subst hcap
      obtain rfl : len = 0 := by omega
      exact ⟨fun _ => 0, by simp, .inr (.inl ⟨ad, rfl, rfl, rfl⟩)⟩
    · rw [hc] at hel
      have cell : ∀ i, i < m → ∀ j, j < s → ∃ z : Int, w.cell? ((ad.add (i * s)).add j) = some (.int .i64 z) := by
        intro i hi j hj
        obtain ⟨cs', h1, h2⟩ := hel i hi
        obtain ⟨-, hlen, hcell⟩ := World.cells?_some h1
        obtain ⟨z, hz⟩ := each n cs' _ h2 hlen j hj
        refine ⟨z, ?_⟩
        have := hcell j hj
        rw [this]
        exact hz
      obtain ⟨z0, h0⟩ := cell 0 (by omega) 0 hs
      obtain ⟨b, off, spot⟩ := ad
      have hs' : spot = none := by simpa [Addr.add] using World.cell?_spot h0
      subst hs'
      have cell2 : ∀ j, j < m * s → ∃ z : Int, w.cell? ⟨b, off + j, none⟩ = some (.int .i64 z) := by
        intro j hj
        have h1 : j / s < m := by rw [Nat.div_lt_iff_lt_mul hs]; exact hj
        obtain ⟨z, hz⟩ := cell (j / s) h1 (j % s) (Nat.mod_lt _ hs)
        rw [add_none' rfl, add_none' rfl, Nat.add_assoc, Nat.mul_comm, Nat.div_add_mod] at hz
        exact ⟨z, hz⟩
      have hpos : 0 < m * s := Nat.mul_pos (by omega) hs
      obtain ⟨z1, h1⟩ := cell2 0 hpos
      obtain ⟨C, e', fz, hg, -⟩ := cell_at h1
      have cell3 : ∀ j, j < m * s → ∃ z : Int, C[off + j]? = some (.int .i64 z) := by
        intro j hj
        obtain ⟨z, hz⟩ := cell2 j hj
        obtain ⟨C', e2, fz2, hg2, hz2⟩ := cell_at hz
        rw [hg] at hg2; cases hg2
        exact ⟨z, hz2⟩
      refine ⟨fun j => if h : j < m * s then (cell3 j h).choose else 0, by simp, .inr (.inr ⟨b, off, C, e', fz, rfl, hg, hl, ?_, fun j v hj => ?_⟩)⟩
      · obtain ⟨z, hz⟩ := cell3 (m * s - 1) (by omega)
        have := (Array.getElem?_eq_some_iff.1 hz).1
        omega
      · have hjl := (List.getElem?_eq_some_iff.1 hj).1
        simp only [List.length_map, List.length_range] at hjl
        have hle : len * s ≤ m * s := Nat.mul_le_mul_right s hl
        rw [List.getElem?_map, List.getElem?_range hjl] at hj
        simp only [Option.map_some, Option.some.injEq, dif_pos (show j < m * s by omega)] at hj
        subst hj
        exact ⟨_, _, rfl, (cell3 j (by omega)).choose_spec⟩
theorem each_int {t : TypeId} {held : Bool} (ht : P.underlying t = some (.int .i64)) (n : Nat) (cs : List Value) (y : DataW T × List MemPlace) (h : DataW.trod enc P w 0 (fun _ => true) held n t cs = some y) (_ : cs.length = 1) (j : Nat) (hj : j < 1) : ∃ z : Int, cs[j]? = some (.int .i64 z) := by
  obtain ⟨z, rfl, -⟩ := DataW.trod_int ht h
  obtain rfl : j = 0 := by omega
  exact ⟨z, rfl⟩
theorem each_ask {e i i' : TypeId} {held : Bool} {f0 f1 f2 f3 : Field} (he : P.underlying e = some (.struct #[f0, f1, f2, f3])) (hi : P.underlying i = some (.int .i64)) (hi' : P.underlying i' = some (.int .i64)) (hci : P.cellsOf i = 1) (hci' : P.cellsOf i' = 1)
    (hf : f0.type = i ∧ f0.offset = 0 ∧ f1.type = i ∧ f1.offset = 1 ∧ f2.type = i ∧ f2.offset = 2 ∧ f3.type = i' ∧ f3.offset = 3)
    (n : Nat) (cs : List Value) (y : DataW T × List MemPlace) (h : DataW.trod enc P w 0 (fun _ => true) held n e cs = some y) (hl : cs.length = 4) (j : Nat) (hj : j < 4) : ∃ z : Int, cs[j]? = some (.int .i64 z) := by
  obtain ⟨xs, n', -, -, -, hxl, hfs⟩ := DataW.trod_struct he h
  obtain ⟨e0, e0', e1, e1', e2, e2', e3, e3'⟩ := hf
  match xs, hxl, cs, hl with
  | [y0, y1, y2, y3], _, [c0, c1, c2, c3], _ =>
    have q0 := hfs 0 f0 rfl
    have q1 := hfs 1 f1 rfl
    have q2 := hfs 2 f2 rfl
    have q3 := hfs 3 f3 rfl
    rw [e0, e0', hci] at q0
    rw [e1, e1', hci] at q1
    rw [e2, e2', hci] at q2
    rw [e3, e3', hci'] at q3
    obtain ⟨z0, r0, -, s0⟩ := DataW.trod_int hi (by simpa using q0)
    obtain ⟨z1, r1, -, s1⟩ := DataW.trod_int hi (by simpa using q1)
    obtain ⟨z2, r2, -, s2⟩ := DataW.trod_int hi (by simpa using q2)
    obtain ⟨z3, r3, -, s3⟩ := DataW.trod_int hi' (by simpa using q3)
    simp at r0 r1 r2 r3
    subst r0 r1 r2 r3
    match j, hj with
    | 0, _ => exact ⟨z0, rfl⟩
    | 1, _ => exact ⟨z1, rfl⟩
    | 2, _ => exact ⟨z2, rfl⟩
    | 3, _ => exact ⟨z3, rfl⟩
end
/-- Cells by four. -/
theorem askc_of (f : Nat → Int) (n : Nat) : (List.range (n * 4)).map (fun j => iv (f j)) = askc ((List.range n).map fun i => (f (i * 4), f (i * 4 + 1), f (i * 4 + 2), f (i * 4 + 3))) := by
  induction n with
  | zero => rfl
  | succ n ih =>
    rw [show (n + 1) * 4 = n * 4 + 1 + 1 + 1 + 1 by omega, List.range_succ, List.range_succ, List.range_succ, List.range_succ, List.range_succ]
    simp only [List.map_append, askc_append, ← ih]
    simp [askc]
end Go.Proofs.Ytldlolpbnfgdeaa.AA
namespace Go.Proofs.Ytldlolpbnfgdeaa.AA
open Go Go.RowKit Go.Proofs.Ytldlolpbnfgdeaa
theorem plays_call (w : World) {a : Option Addr} {len cap : Nat} {f : Nat → Int} (hr : RowAt w a len cap 4 ((List.range (len * 4)).map fun j => iv (f j))) (hl : len * 32 ≤ 140737488351232) : Calls Try.prog 7 #[.slice a len cap] w fun e w' => e = .returned (.bool true) ∧ Kp (fun k => k < w.heap.size) w w' := by
  obtain ⟨ρ, H, v, h1, h2, h3, h4, h5, h6⟩ := add_row (HS.empty w) RO.empty hr
  rw [askc_of] at h6
  refine law_true (args := [v]) (c_plays (l := (List.range len).map fun i => (f (i * 4), f (i * 4 + 1), f (i * 4 + 2), f (i * 4 + 3))) (by simpa using h6) (by simpa using hl)) h1 ?_
  simp only [RL]
  exact ⟨_, _, rfl, h5, rfl⟩
end Go.Proofs.Ytldlolpbnfgdeaa.AA
