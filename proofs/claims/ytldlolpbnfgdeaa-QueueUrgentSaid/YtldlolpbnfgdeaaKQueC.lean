/- The queue: those that sleep. -/
import Derived.Test.YtldlolpbnfgdeaaKQueB
set_option linter.unusedSimpArgs false
set_option linter.unusedVariables false
namespace Go.Proofs.Ytldlolpbnfgdeaa.AA
open Go Go.RowKit
set_option maxRecDepth 100000
attribute [local irreducible] Tr.set
set_option maxHeartbeats 1000000
/-- A row that is written in place. -/
def Arr (H : AHeap) (x : Nat) (cs : List AV) (P : Nat → Prop) : Prop := x < H.next ∧ ∃ c par, H.get x = .cells c cs.length true par ∧ (∀ j v, cs[j]? = some v → c.get j = some v) ∧ ∀ z, z ∈ par → P z
theorem get_killAll : ∀ (par : List Nat) (H : AHeap) (y : Nat), y ∉ par → (killAll H par).get y = H.get y
  | [], H, y, _ => rfl
  | z :: par, H, y, h => by
    rw [killAll, get_killAll par _ y (fun e => h (List.mem_cons_of_mem _ e)), get_put, if_neg (fun e => h (by rw [e]; exact List.mem_cons_self ..))]
theorem next_killAll : ∀ (par : List Nat) (H : AHeap), (killAll H par).next = H.next
  | [], H => rfl
  | z :: par, H => by rw [killAll, next_killAll par]; rfl
theorem Arr.rd {H : AHeap} {x : Nat} {cs : List AV} {P : Nat → Prop} (h : Arr H x cs P) : Rd H x 0 cs := by
  obtain ⟨hx, c, par, hc, hf, -⟩ := h
  exact ⟨hx, c, cs.length, true, par, hc, by omega, fun j v hj => by rw [Nat.zero_add]; exact hf j v hj⟩
theorem Arr.keep {H H' : AHeap} {x : Nat} {cs : List AV} {P : Nat → Prop} (h : Arr H x cs P) (hl : H.next ≤ H'.next) (hg : H'.get x = H.get x) : Arr H' x cs P := by
  obtain ⟨hx, c, par, hc, hf, hp⟩ := h
  exact ⟨by omega, c, par, by rw [hg]; exact hc, hf, hp⟩
theorem Arr.store {H : AHeap} {x o : Nat} {cs vs cs' : List AV} {P : Nat → Prop} (h : Arr H x cs P) (ho : o + vs.length ≤ cs.length) (he : cs' = setAt cs o vs) : ∃ H', storeA H x o vs = some H' ∧ H'.next = H.next ∧ Arr H' x cs' P ∧ ∀ y, y ≠ x → ¬ P y → H'.get y = H.get y := by
  obtain ⟨hx, c, par, hc, hf, hp⟩ := h
  have hlen : cs'.length = cs.length := by rw [he]; simp [setAt]; omega
  refine ⟨(killAll H par).put x (.cells (ofL vs o c) cs.length true []), ?_, by rw [next_put, next_killAll], ⟨by rw [next_put, next_killAll]; exact hx, ofL vs o c, [], by rw [get_put, if_pos rfl, hlen], fun j v hj => ?_, by simp⟩, fun y hy hpy => ?_⟩
  · unfold storeA
    rw [hc]
    simp only [Nat.ble_eq_true_of_le ho, cond_true]
  · rw [get_ofL]
    rw [he, setAt] at hj
    by_cases h1 : o ≤ j ∧ j < o + vs.length
    · rw [if_pos h1]
      rw [List.append_assoc, List.getElem?_append_right (by simp; omega), List.getElem?_append_left (by simp; omega)] at hj
      simp only [List.length_take] at hj
      rwa [show j - min o cs.length = j - o by omega] at hj
    · rw [if_neg h1]
      refine hf j v ?_
      by_cases h2 : j < o
      · rw [List.append_assoc, List.getElem?_append_left (by simp; omega), List.getElem?_take, if_pos h2] at hj
        exact hj
      · rw [List.getElem?_append_right (by simp; omega), List.getElem?_drop] at hj
        simp only [List.length_append, List.length_take] at hj
        rwa [show o + vs.length + (j - (min o cs.length + vs.length)) = j by omega] at hj
  · rw [get_put, if_neg (Ne.symm hy), get_killAll _ _ _ (fun e => hpy (hp y e))]
theorem slp_append (l l' : List (Nat × Int)) : slp (l ++ l') = slp l ++ slp l' := by simp [slp]
theorem slp_len (l : List (Nat × Int)) : (slp l).length = l.length * 2 := by
  induction l with
  | nil => rfl
  | cons x l ih => simp [slp] at ih ⊢; omega
theorem Rd.two {H : AHeap} {x o : Nat} {l1 l2 : List (Nat × Int)} {y : Nat × Int} {i : Nat} (h : Rd H x o (slp (l1 ++ y :: l2))) (hl : l1.length = i) : loadA H x (o + i * 2) 2 = some [.int .i64 y.1, .int .i64 y.2] := by
  have h2 : Rd H x (o + i * 2) [.int .i64 y.1, .int .i64 y.2] := by
    obtain ⟨hx, c, k, own, par, hc, hk, hf⟩ := h
    have e : slp (l1 ++ y :: l2) = slp l1 ++ ([.int .i64 y.1, .int .i64 y.2] ++ slp l2) := by rw [slp_append]; rfl
    rw [e] at hk hf
    have hl1 : (slp l1).length = i * 2 := by rw [slp_len, hl]
    refine ⟨hx, c, k, own, par, hc, by simp at hk ⊢; omega, fun j v hj => ?_⟩
    rw [Nat.add_assoc]
    refine hf (i * 2 + j) v ?_
    have hj2 := (List.getElem?_eq_some_iff.1 hj).1
    rw [List.getElem?_append_right (by omega), List.getElem?_append_left (by rw [hl1]; omega), hl1]
    rwa [show i * 2 + j - i * 2 = j by omega]
  exact h2.load rfl
theorem slp_set {l1 l2 : List (Nat × Int)} {y z : Nat × Int} {i : Nat} (hl : l1.length = i) : setAt (slp (l1 ++ y :: l2)) (i * 2) [.int .i64 z.1, .int .i64 z.2] = slp (l1 ++ z :: l2) := by
  have e : ∀ y : Nat × Int, slp (l1 ++ y :: l2) = slp l1 ++ (.int .i64 y.1 :: .int .i64 y.2 :: slp l2) := fun y => by rw [slp_append]; rfl
  have hl1 : (slp l1).length = i * 2 := by rw [slp_len, hl]
  rw [e, e, setAt, ← hl1]
  simp
def cmpI (u w : Int) : Int := if u < w then -1 else if w < u then 1 else 0
theorem c_isNaN (u : Int) (H : AHeap) : CW M0 95 [iv u] H fun v H' => v = .bool false ∧ H' = H := by
  refine CW_of (fn := af95) rfl ?_
  unfold af95
  simp -implicitDefEqProofs only [iv, bne_self_eq_false, ↓WP_seq, ↓WP_skip, ↓WP_region, ↓WP_dregion, ↓WP_cond, ↓WP_block, ↓WP_exit, ↓WP_ret, ↓OW_nil, ↓OW_cons, ↓DW_nil, ↓DW_cons, ↓XW_call, XW, exA, KO_eq, KD_eq, OptK_some, EvK_some, GW2_true, GW2_false, KS_normal, KS_ret, KS_exit, KB_normal, KB_ret, KB_exit, CP2_bool, RP_ret, RP_normal, putA_some, putA_none, ev_t, ev_c, evs, evo, wantA, initA, resA, Tr.get_set, vl, chkOk, cond_true, cond_false, Nat.add_zero, Nat.mul_one, Nat.one_mul, Nat.zero_add, Nat.zero_mul, aggOf, pInt, binA, unA, intA, beq_true, beq_false, Bool.not_true, Bool.not_false, Bool.not_eq_true, and_self, and_true, true_and, ↓reduceIte, reduceIte, Nat.reduceEqDiff, Nat.succ_ne_self, Nat.reduceAdd, Nat.reduceMul, Nat.reduceSub, Nat.reduceBEq, Nat.reduceLT, Nat.reduceLeDiff, Int.cast_ofNat_Int, Int.reduceToNat, Int.reduceLT, Int.reduceLE, Int.reduceGE, Int.reduceGT, Int.reduceEq, Int.reduceNe, Int.reduceAdd, Int.reduceSub, Int.reduceNeg, decide_true, decide_false, Int.toNat_natCast, reduceCtorEq, List.nil_append, List.cons_append, AV.boxy, AV.cells, List.length_cons, List.length_nil, Nat.beq_refl, AOp.cl, ↓OW_guard, ↓DW_guard, KDW_0, KDW_1, KDW_2, OWskip_eq, DWskip_eq, fillA, setAt, DChk, DAt, stepA, ble_dec, beq_dec, Bool.and_self, Bool.and_true, Bool.true_and, Bool.and_false, Bool.false_and, List.take_succ_cons, List.take_zero, List.drop_succ_cons, List.drop_zero, List.take_nil, List.drop_nil, List.append_nil, eqAV, eqAVL, BEq.rfl, eqA, eqD, sameS, Option.map, Option.isNone, addrA, wrap64, gt_iff_lt, ge_iff_le, Int.lt_irrefl, Int.le_refl]
theorem c_Compare (u w : Int) (H : AHeap) : CW M0 78 [iv u, iv w] H fun v H' => v = iv (cmpI u w) ∧ H' = H := by
  refine CW_of (fn := af78) rfl ?_
  unfold af78
  simp -implicitDefEqProofs only [↓WP_seq, ↓WP_skip, ↓WP_region, ↓WP_dregion, ↓WP_cond, ↓WP_block, ↓WP_exit, ↓WP_ret, ↓OW_nil, ↓OW_cons, ↓DW_nil, ↓DW_cons, ↓XW_call, XW, exA, KO_eq, KD_eq, OptK_some, EvK_some, GW2_true, GW2_false, KS_normal, KS_ret, KS_exit, KB_normal, KB_ret, KB_exit, CP2_bool, RP_ret, RP_normal, putA_some, putA_none, ev_t, ev_c, evs, evo, wantA, initA, resA, Tr.get_set, vl, chkOk, cond_true, cond_false, Nat.add_zero, Nat.mul_one, Nat.one_mul, Nat.zero_add, Nat.zero_mul, aggOf, pInt, binA, unA, intA, beq_true, beq_false, Bool.not_true, Bool.not_false, Bool.not_eq_true, and_self, and_true, true_and, ↓reduceIte, reduceIte, Nat.reduceEqDiff, Nat.succ_ne_self, Nat.reduceAdd, Nat.reduceMul, Nat.reduceSub, Nat.reduceBEq, Nat.reduceLT, Nat.reduceLeDiff, Int.cast_ofNat_Int, Int.reduceToNat, Int.reduceLT, Int.reduceLE, Int.reduceGE, Int.reduceGT, Int.reduceEq, Int.reduceNe, Int.reduceAdd, Int.reduceSub, Int.reduceNeg, decide_true, decide_false, Int.toNat_natCast, reduceCtorEq, List.nil_append, List.cons_append, AV.boxy, AV.cells, List.length_cons, List.length_nil, Nat.beq_refl, AOp.cl, ↓OW_guard, ↓DW_guard, KDW_0, KDW_1, KDW_2, OWskip_eq, DWskip_eq, fillA, setAt, DChk, DAt, stepA, ble_dec, beq_dec, Bool.and_self, Bool.and_true, Bool.true_and, Bool.and_false, Bool.false_and, List.take_succ_cons, List.take_zero, List.drop_succ_cons, List.drop_zero, List.take_nil, List.drop_nil, List.append_nil, eqAV, eqAVL, BEq.rfl, eqA, eqD, sameS, Option.map, Option.isNone, addrA, wrap64, gt_iff_lt, ge_iff_le, Int.lt_irrefl, Int.le_refl]
  refine CW.mono (c_isNaN u H) ?_
  rintro v H' ⟨rfl, rfl⟩
  simp -implicitDefEqProofs only [↓WP_seq, ↓WP_skip, ↓WP_region, ↓WP_dregion, ↓WP_cond, ↓WP_block, ↓WP_exit, ↓WP_ret, ↓OW_nil, ↓OW_cons, ↓DW_nil, ↓DW_cons, ↓XW_call, XW, exA, KO_eq, KD_eq, OptK_some, EvK_some, GW2_true, GW2_false, KS_normal, KS_ret, KS_exit, KB_normal, KB_ret, KB_exit, CP2_bool, RP_ret, RP_normal, putA_some, putA_none, ev_t, ev_c, evs, evo, wantA, initA, resA, Tr.get_set, vl, chkOk, cond_true, cond_false, Nat.add_zero, Nat.mul_one, Nat.one_mul, Nat.zero_add, Nat.zero_mul, aggOf, pInt, binA, unA, intA, beq_true, beq_false, Bool.not_true, Bool.not_false, Bool.not_eq_true, and_self, and_true, true_and, ↓reduceIte, reduceIte, Nat.reduceEqDiff, Nat.succ_ne_self, Nat.reduceAdd, Nat.reduceMul, Nat.reduceSub, Nat.reduceBEq, Nat.reduceLT, Nat.reduceLeDiff, Int.cast_ofNat_Int, Int.reduceToNat, Int.reduceLT, Int.reduceLE, Int.reduceGE, Int.reduceGT, Int.reduceEq, Int.reduceNe, Int.reduceAdd, Int.reduceSub, Int.reduceNeg, decide_true, decide_false, Int.toNat_natCast, reduceCtorEq, List.nil_append, List.cons_append, AV.boxy, AV.cells, List.length_cons, List.length_nil, Nat.beq_refl, AOp.cl, ↓OW_guard, ↓DW_guard, KDW_0, KDW_1, KDW_2, OWskip_eq, DWskip_eq, fillA, setAt, DChk, DAt, stepA, ble_dec, beq_dec, Bool.and_self, Bool.and_true, Bool.true_and, Bool.and_false, Bool.false_and, List.take_succ_cons, List.take_zero, List.drop_succ_cons, List.drop_zero, List.take_nil, List.drop_nil, List.append_nil, eqAV, eqAVL, BEq.rfl, eqA, eqD, sameS, Option.map, Option.isNone, addrA, wrap64, gt_iff_lt, ge_iff_le, Int.lt_irrefl, Int.le_refl]
  refine CW.mono (c_isNaN w H') ?_
  rintro v H1 ⟨rfl, rfl⟩
  by_cases h1 : u < w
  · simp -implicitDefEqProofs only [iv, h1, cmpI, Bool.false_eq_true, ↓WP_seq, ↓WP_skip, ↓WP_region, ↓WP_dregion, ↓WP_cond, ↓WP_block, ↓WP_exit, ↓WP_ret, ↓OW_nil, ↓OW_cons, ↓DW_nil, ↓DW_cons, ↓XW_call, XW, exA, KO_eq, KD_eq, OptK_some, EvK_some, GW2_true, GW2_false, KS_normal, KS_ret, KS_exit, KB_normal, KB_ret, KB_exit, CP2_bool, RP_ret, RP_normal, putA_some, putA_none, ev_t, ev_c, evs, evo, wantA, initA, resA, Tr.get_set, vl, chkOk, cond_true, cond_false, Nat.add_zero, Nat.mul_one, Nat.one_mul, Nat.zero_add, Nat.zero_mul, aggOf, pInt, binA, unA, intA, beq_true, beq_false, Bool.not_true, Bool.not_false, Bool.not_eq_true, and_self, and_true, true_and, ↓reduceIte, reduceIte, Nat.reduceEqDiff, Nat.succ_ne_self, Nat.reduceAdd, Nat.reduceMul, Nat.reduceSub, Nat.reduceBEq, Nat.reduceLT, Nat.reduceLeDiff, Int.cast_ofNat_Int, Int.reduceToNat, Int.reduceLT, Int.reduceLE, Int.reduceGE, Int.reduceGT, Int.reduceEq, Int.reduceNe, Int.reduceAdd, Int.reduceSub, Int.reduceNeg, decide_true, decide_false, Int.toNat_natCast, reduceCtorEq, List.nil_append, List.cons_append, AV.boxy, AV.cells, List.length_cons, List.length_nil, Nat.beq_refl, AOp.cl, ↓OW_guard, ↓DW_guard, KDW_0, KDW_1, KDW_2, OWskip_eq, DWskip_eq, fillA, setAt, DChk, DAt, stepA, ble_dec, beq_dec, Bool.and_self, Bool.and_true, Bool.true_and, Bool.and_false, Bool.false_and, List.take_succ_cons, List.take_zero, List.drop_succ_cons, List.drop_zero, List.take_nil, List.drop_nil, List.append_nil, eqAV, eqAVL, BEq.rfl, eqA, eqD, sameS, Option.map, Option.isNone, addrA, wrap64, gt_iff_lt, ge_iff_le, Int.lt_irrefl, Int.le_refl]
  · by_cases h2 : w < u
    · simp -implicitDefEqProofs only [iv, h1, h2, cmpI, Bool.false_eq_true, ↓WP_seq, ↓WP_skip, ↓WP_region, ↓WP_dregion, ↓WP_cond, ↓WP_block, ↓WP_exit, ↓WP_ret, ↓OW_nil, ↓OW_cons, ↓DW_nil, ↓DW_cons, ↓XW_call, XW, exA, KO_eq, KD_eq, OptK_some, EvK_some, GW2_true, GW2_false, KS_normal, KS_ret, KS_exit, KB_normal, KB_ret, KB_exit, CP2_bool, RP_ret, RP_normal, putA_some, putA_none, ev_t, ev_c, evs, evo, wantA, initA, resA, Tr.get_set, vl, chkOk, cond_true, cond_false, Nat.add_zero, Nat.mul_one, Nat.one_mul, Nat.zero_add, Nat.zero_mul, aggOf, pInt, binA, unA, intA, beq_true, beq_false, Bool.not_true, Bool.not_false, Bool.not_eq_true, and_self, and_true, true_and, ↓reduceIte, reduceIte, Nat.reduceEqDiff, Nat.succ_ne_self, Nat.reduceAdd, Nat.reduceMul, Nat.reduceSub, Nat.reduceBEq, Nat.reduceLT, Nat.reduceLeDiff, Int.cast_ofNat_Int, Int.reduceToNat, Int.reduceLT, Int.reduceLE, Int.reduceGE, Int.reduceGT, Int.reduceEq, Int.reduceNe, Int.reduceAdd, Int.reduceSub, Int.reduceNeg, decide_true, decide_false, Int.toNat_natCast, reduceCtorEq, List.nil_append, List.cons_append, AV.boxy, AV.cells, List.length_cons, List.length_nil, Nat.beq_refl, AOp.cl, ↓OW_guard, ↓DW_guard, KDW_0, KDW_1, KDW_2, OWskip_eq, DWskip_eq, fillA, setAt, DChk, DAt, stepA, ble_dec, beq_dec, Bool.and_self, Bool.and_true, Bool.true_and, Bool.and_false, Bool.false_and, List.take_succ_cons, List.take_zero, List.drop_succ_cons, List.drop_zero, List.take_nil, List.drop_nil, List.append_nil, eqAV, eqAVL, BEq.rfl, eqA, eqD, sameS, Option.map, Option.isNone, addrA, wrap64, gt_iff_lt, ge_iff_le, Int.lt_irrefl, Int.le_refl]
    · simp -implicitDefEqProofs only [iv, h1, h2, cmpI, Bool.false_eq_true, ↓WP_seq, ↓WP_skip, ↓WP_region, ↓WP_dregion, ↓WP_cond, ↓WP_block, ↓WP_exit, ↓WP_ret, ↓OW_nil, ↓OW_cons, ↓DW_nil, ↓DW_cons, ↓XW_call, XW, exA, KO_eq, KD_eq, OptK_some, EvK_some, GW2_true, GW2_false, KS_normal, KS_ret, KS_exit, KB_normal, KB_ret, KB_exit, CP2_bool, RP_ret, RP_normal, putA_some, putA_none, ev_t, ev_c, evs, evo, wantA, initA, resA, Tr.get_set, vl, chkOk, cond_true, cond_false, Nat.add_zero, Nat.mul_one, Nat.one_mul, Nat.zero_add, Nat.zero_mul, aggOf, pInt, binA, unA, intA, beq_true, beq_false, Bool.not_true, Bool.not_false, Bool.not_eq_true, and_self, and_true, true_and, ↓reduceIte, reduceIte, Nat.reduceEqDiff, Nat.succ_ne_self, Nat.reduceAdd, Nat.reduceMul, Nat.reduceSub, Nat.reduceBEq, Nat.reduceLT, Nat.reduceLeDiff, Int.cast_ofNat_Int, Int.reduceToNat, Int.reduceLT, Int.reduceLE, Int.reduceGE, Int.reduceGT, Int.reduceEq, Int.reduceNe, Int.reduceAdd, Int.reduceSub, Int.reduceNeg, decide_true, decide_false, Int.toNat_natCast, reduceCtorEq, List.nil_append, List.cons_append, AV.boxy, AV.cells, List.length_cons, List.length_nil, Nat.beq_refl, AOp.cl, ↓OW_guard, ↓DW_guard, KDW_0, KDW_1, KDW_2, OWskip_eq, DWskip_eq, fillA, setAt, DChk, DAt, stepA, ble_dec, beq_dec, Bool.and_self, Bool.and_true, Bool.true_and, Bool.and_false, Bool.false_and, List.take_succ_cons, List.take_zero, List.drop_succ_cons, List.drop_zero, List.take_nil, List.drop_nil, List.append_nil, eqAV, eqAVL, BEq.rfl, eqA, eqD, sameS, Option.map, Option.isNone, addrA, wrap64, gt_iff_lt, ge_iff_le, Int.lt_irrefl, Int.le_refl]
theorem c_cmp (p q : Nat) (u w : Int) (H : AHeap) : CW M0 77 [.agg [.int .i64 p, .int .i64 u], .agg [.int .i64 q, .int .i64 w]] H fun v H' => v = iv (cmpI u w) ∧ Chg H H' none := by
  refine CW_of (fn := af77) rfl ?_
  unfold af77
  have c1 := Chg.newRow H [.int .i64 p, .int .i64 u]
  have c2 := Chg.newRow (H.newRow [.int .i64 p, .int .i64 u]) [.int .i64 q, .int .i64 w]
  have r1 := (Rd.newRow H [.int .i64 p, .int .i64 u])
  have r1' := r1.keep c2.1 (c2.keep r1.1 (by simp))
  have r2 := (Rd.newRow (H.newRow [.int .i64 p, .int .i64 u]) [.int .i64 q, .int .i64 w])
  have ld1 := r1'.one (j := 1) rfl
  have ld2 := r2.one (j := 1) rfl
  simp -implicitDefEqProofs only [ld1, ld2, ↓WP_seq, ↓WP_skip, ↓WP_region, ↓WP_dregion, ↓WP_cond, ↓WP_block, ↓WP_exit, ↓WP_ret, ↓OW_nil, ↓OW_cons, ↓DW_nil, ↓DW_cons, ↓XW_call, XW, exA, KO_eq, KD_eq, OptK_some, EvK_some, GW2_true, GW2_false, KS_normal, KS_ret, KS_exit, KB_normal, KB_ret, KB_exit, CP2_bool, RP_ret, RP_normal, putA_some, putA_none, ev_t, ev_c, evs, evo, wantA, initA, resA, Tr.get_set, vl, chkOk, cond_true, cond_false, Nat.add_zero, Nat.mul_one, Nat.one_mul, Nat.zero_add, Nat.zero_mul, aggOf, pInt, binA, unA, intA, beq_true, beq_false, Bool.not_true, Bool.not_false, Bool.not_eq_true, and_self, and_true, true_and, ↓reduceIte, reduceIte, Nat.reduceEqDiff, Nat.succ_ne_self, Nat.reduceAdd, Nat.reduceMul, Nat.reduceSub, Nat.reduceBEq, Nat.reduceLT, Nat.reduceLeDiff, Int.cast_ofNat_Int, Int.reduceToNat, Int.reduceLT, Int.reduceLE, Int.reduceGE, Int.reduceGT, Int.reduceEq, Int.reduceNe, Int.reduceAdd, Int.reduceSub, Int.reduceNeg, decide_true, decide_false, Int.toNat_natCast, reduceCtorEq, List.nil_append, List.cons_append, AV.boxy, AV.cells, List.length_cons, List.length_nil, Nat.beq_refl, AOp.cl, ↓OW_guard, ↓DW_guard, KDW_0, KDW_1, KDW_2, OWskip_eq, DWskip_eq, fillA, setAt, DChk, DAt, stepA, ble_dec, beq_dec, Bool.and_self, Bool.and_true, Bool.true_and, Bool.and_false, Bool.false_and, List.take_succ_cons, List.take_zero, List.drop_succ_cons, List.drop_zero, List.take_nil, List.drop_nil, List.append_nil, eqAV, eqAVL, BEq.rfl, eqA, eqD, sameS, Option.map, Option.isNone, addrA, wrap64, gt_iff_lt, ge_iff_le, Int.lt_irrefl, Int.le_refl]
  refine CW.mono (c_Compare u w _) ?_
  rintro v H' ⟨rfl, rfl⟩
  simp -implicitDefEqProofs only [↓WP_seq, ↓WP_skip, ↓WP_region, ↓WP_dregion, ↓WP_cond, ↓WP_block, ↓WP_exit, ↓WP_ret, ↓OW_nil, ↓OW_cons, ↓DW_nil, ↓DW_cons, ↓XW_call, XW, exA, KO_eq, KD_eq, OptK_some, EvK_some, GW2_true, GW2_false, KS_normal, KS_ret, KS_exit, KB_normal, KB_ret, KB_exit, CP2_bool, RP_ret, RP_normal, putA_some, putA_none, ev_t, ev_c, evs, evo, wantA, initA, resA, Tr.get_set, vl, chkOk, cond_true, cond_false, Nat.add_zero, Nat.mul_one, Nat.one_mul, Nat.zero_add, Nat.zero_mul, aggOf, pInt, binA, unA, intA, beq_true, beq_false, Bool.not_true, Bool.not_false, Bool.not_eq_true, and_self, and_true, true_and, ↓reduceIte, reduceIte, Nat.reduceEqDiff, Nat.succ_ne_self, Nat.reduceAdd, Nat.reduceMul, Nat.reduceSub, Nat.reduceBEq, Nat.reduceLT, Nat.reduceLeDiff, Int.cast_ofNat_Int, Int.reduceToNat, Int.reduceLT, Int.reduceLE, Int.reduceGE, Int.reduceGT, Int.reduceEq, Int.reduceNe, Int.reduceAdd, Int.reduceSub, Int.reduceNeg, decide_true, decide_false, Int.toNat_natCast, reduceCtorEq, List.nil_append, List.cons_append, AV.boxy, AV.cells, List.length_cons, List.length_nil, Nat.beq_refl, AOp.cl, ↓OW_guard, ↓DW_guard, KDW_0, KDW_1, KDW_2, OWskip_eq, DWskip_eq, fillA, setAt, DChk, DAt, stepA, ble_dec, beq_dec, Bool.and_self, Bool.and_true, Bool.true_and, Bool.and_false, Bool.false_and, List.take_succ_cons, List.take_zero, List.drop_succ_cons, List.drop_zero, List.take_nil, List.drop_nil, List.append_nil, eqAV, eqAVL, BEq.rfl, eqA, eqD, sameS, Option.map, Option.isNone, addrA, wrap64, gt_iff_lt, ge_iff_le, Int.lt_irrefl, Int.le_refl]
  exact c1.trans c2
/-- One element goes down into the sorted ones. -/
def bub : List (Nat × Int) → Nat × Int → List (Nat × Int) → List (Nat × Int)
  | [], x, post => x :: post
  | y :: r, x, post => if x.2 < y.2 then bub r x (y :: post) else r.reverse ++ y :: x :: post
def isort (l : List (Nat × Int)) : List (Nat × Int) := l.foldl (fun S x => bub S.reverse x []) []
theorem bub_len : ∀ (r : List (Nat × Int)) (x : Nat × Int) (post : List (Nat × Int)), (bub r x post).length = r.length + 1 + post.length
  | [], x, post => by simp [bub]; omega
  | y :: r, x, post => by
    unfold bub
    split
    · rw [bub_len r]; simp; omega
    · simp; omega
theorem isort_len (l : List (Nat × Int)) : (isort l).length = l.length := by
  have key : ∀ (l S : List (Nat × Int)), (l.foldl (fun S x => bub S.reverse x []) S).length = S.length + l.length := by
    intro l
    induction l with
    | nil => intro S; rfl
    | cons x l ih => intro S; rw [List.foldl_cons, ih, bub_len]; simp; omega
  rw [isort, key]; simp
theorem isort_snoc (l : List (Nat × Int)) (x : Nat × Int) : isort (l ++ [x]) = bub (isort l).reverse x [] := by simp [isort]
theorem take_succ' {l : List (Nat × Int)} {i : Nat} {x : Nat × Int} {r : List (Nat × Int)} (h : l.drop i = x :: r) : l.take (i + 1) = l.take i ++ [x] ∧ l.drop (i + 1) = r := by
  have hx : l[i]? = some x := by
    have := congrArg (fun l => l[0]?) h
    simpa using this
  refine ⟨by rw [List.take_add_one, hx]; rfl, ?_⟩
  rw [← List.drop_drop, h]; rfl
theorem c_isort {H : AHeap} {x n : Nat} {l : List (Nat × Int)} {P : Nat → Prop} (h : Arr H x (slp l) P) (hn : l.length = n) (h6 : n ≤ 6) (hP : ∀ z, P z → z ≠ x) :
    CW M0 102 [.slice (some (x, 0)) 2 n false, iv 0, iv n, .func (.func 77) [] []] H fun _ H' => H.next ≤ H'.next ∧ Arr H' x (slp (isort l)) P ∧ ∀ y, y < H.next → y ≠ x → ¬ P y → H'.get y = H.get y := by
  refine CW_of (fn := af102) rfl ?_
  unfold af102
  simp -implicitDefEqProofs only [iv, ↓WP_seq, ↓WP_skip, ↓WP_region, ↓WP_dregion, ↓WP_cond, ↓WP_block, ↓WP_exit, ↓WP_ret, ↓OW_nil, ↓OW_cons, ↓DW_nil, ↓DW_cons, ↓XW_call, XW, exA, KO_eq, KD_eq, OptK_some, EvK_some, GW2_true, GW2_false, KS_normal, KS_ret, KS_exit, KB_normal, KB_ret, KB_exit, CP2_bool, RP_ret, RP_normal, putA_some, putA_none, ev_t, ev_c, evs, evo, wantA, initA, resA, Tr.get_set, vl, chkOk, cond_true, cond_false, Nat.add_zero, Nat.mul_one, Nat.one_mul, Nat.zero_add, Nat.zero_mul, aggOf, pInt, binA, unA, intA, beq_true, beq_false, Bool.not_true, Bool.not_false, Bool.not_eq_true, and_self, and_true, true_and, ↓reduceIte, reduceIte, Nat.reduceEqDiff, Nat.succ_ne_self, Nat.reduceAdd, Nat.reduceMul, Nat.reduceSub, Nat.reduceBEq, Nat.reduceLT, Nat.reduceLeDiff, Int.cast_ofNat_Int, Int.reduceToNat, Int.reduceLT, Int.reduceLE, Int.reduceGE, Int.reduceGT, Int.reduceEq, Int.reduceNe, Int.reduceAdd, Int.reduceSub, Int.reduceNeg, decide_true, decide_false, Int.toNat_natCast, reduceCtorEq, List.nil_append, List.cons_append, AV.boxy, AV.cells, List.length_cons, List.length_nil, Nat.beq_refl, AOp.cl, ↓OW_guard, ↓DW_guard, KDW_0, KDW_1, KDW_2, OWskip_eq, DWskip_eq, fillA, setAt, DChk, DAt, stepA, ble_dec, beq_dec, Bool.and_self, Bool.and_true, Bool.true_and, Bool.and_false, Bool.false_and, List.take_succ_cons, List.take_zero, List.drop_succ_cons, List.drop_zero, List.take_nil, List.drop_nil, List.append_nil, eqAV, eqAVL, BEq.rfl, eqA, eqD, sameS, Option.map, Option.isNone, addrA, wrap64, gt_iff_lt, ge_iff_le, Int.lt_irrefl, Int.le_refl]
  refine WP_loop (fun k fr H' => ∃ i, k = n - i ∧ 1 ≤ i ∧ (i ≤ n ∨ i = 1) ∧ fr.get 0 = some (.slice (some (x, 0)) 2 n false) ∧ fr.get 1 = some (.int .i64 0) ∧ fr.get 2 = some (.int .i64 n) ∧ fr.get 3 = some (.func (.func 77) [] []) ∧ fr.get 8 = some (.int .i64 i) ∧ H.next ≤ H'.next ∧ Arr H' x (slp (isort (l.take i) ++ l.drop i)) P ∧ ∀ y, y < H.next → y ≠ x → ¬ P y → H'.get y = H.get y) (n - 1) ?_ ?_
  · refine ⟨1, rfl, by omega, .inr rfl, ?_⟩
    simp -implicitDefEqProofs only [↓WP_seq, ↓WP_skip, ↓WP_region, ↓WP_dregion, ↓WP_cond, ↓WP_block, ↓WP_exit, ↓WP_ret, ↓OW_nil, ↓OW_cons, ↓DW_nil, ↓DW_cons, ↓XW_call, XW, exA, KO_eq, KD_eq, OptK_some, EvK_some, GW2_true, GW2_false, KS_normal, KS_ret, KS_exit, KB_normal, KB_ret, KB_exit, CP2_bool, RP_ret, RP_normal, putA_some, putA_none, ev_t, ev_c, evs, evo, wantA, initA, resA, Tr.get_set, vl, chkOk, cond_true, cond_false, Nat.add_zero, Nat.mul_one, Nat.one_mul, Nat.zero_add, Nat.zero_mul, aggOf, pInt, binA, unA, intA, beq_true, beq_false, Bool.not_true, Bool.not_false, Bool.not_eq_true, and_self, and_true, true_and, ↓reduceIte, reduceIte, Nat.reduceEqDiff, Nat.succ_ne_self, Nat.reduceAdd, Nat.reduceMul, Nat.reduceSub, Nat.reduceBEq, Nat.reduceLT, Nat.reduceLeDiff, Int.cast_ofNat_Int, Int.reduceToNat, Int.reduceLT, Int.reduceLE, Int.reduceGE, Int.reduceGT, Int.reduceEq, Int.reduceNe, Int.reduceAdd, Int.reduceSub, Int.reduceNeg, decide_true, decide_false, Int.toNat_natCast, reduceCtorEq, List.nil_append, List.cons_append, AV.boxy, AV.cells, List.length_cons, List.length_nil, Nat.beq_refl, AOp.cl, ↓OW_guard, ↓DW_guard, KDW_0, KDW_1, KDW_2, OWskip_eq, DWskip_eq, fillA, setAt, DChk, DAt, stepA, ble_dec, beq_dec, Bool.and_self, Bool.and_true, Bool.true_and, Bool.and_false, Bool.false_and, List.take_succ_cons, List.take_zero, List.drop_succ_cons, List.drop_zero, List.take_nil, List.drop_nil, List.append_nil, eqAV, eqAVL, BEq.rfl, eqA, eqD, sameS, Option.map, Option.isNone, addrA, wrap64, gt_iff_lt, ge_iff_le, Int.lt_irrefl, Int.le_refl]
    refine ⟨Nat.le_refl _, ?_, fun _ _ _ _ => trivial⟩
    have : isort (l.take 1) ++ l.drop 1 = l := by cases l <;> simp [isort, bub]
    rw [this]
    exact h
  · rintro k fr H1 ⟨i, hk, hi1, hi2, g0, g1, g2, g3, g8, hnx, ha, hfr⟩
    by_cases hlt : i < n
    · have hlt' : (i : Int) < n := by omega
      obtain ⟨y0, r0, hd⟩ : ∃ y r, l.drop i = y :: r := by
        cases e : l.drop i with
        | nil => have := congrArg List.length e; simp at this; omega
        | cons y r => exact ⟨y, r, rfl⟩
      obtain ⟨ht, hd1⟩ := take_succ' hd
      simp -implicitDefEqProofs only [g0, g1, g2, g3, g8, hlt', ↓WP_seq, ↓WP_skip, ↓WP_region, ↓WP_dregion, ↓WP_cond, ↓WP_block, ↓WP_exit, ↓WP_ret, ↓OW_nil, ↓OW_cons, ↓DW_nil, ↓DW_cons, ↓XW_call, XW, exA, KO_eq, KD_eq, OptK_some, EvK_some, GW2_true, GW2_false, KS_normal, KS_ret, KS_exit, KB_normal, KB_ret, KB_exit, CP2_bool, RP_ret, RP_normal, putA_some, putA_none, ev_t, ev_c, evs, evo, wantA, initA, resA, Tr.get_set, vl, chkOk, cond_true, cond_false, Nat.add_zero, Nat.mul_one, Nat.one_mul, Nat.zero_add, Nat.zero_mul, aggOf, pInt, binA, unA, intA, beq_true, beq_false, Bool.not_true, Bool.not_false, Bool.not_eq_true, and_self, and_true, true_and, ↓reduceIte, reduceIte, Nat.reduceEqDiff, Nat.succ_ne_self, Nat.reduceAdd, Nat.reduceMul, Nat.reduceSub, Nat.reduceBEq, Nat.reduceLT, Nat.reduceLeDiff, Int.cast_ofNat_Int, Int.reduceToNat, Int.reduceLT, Int.reduceLE, Int.reduceGE, Int.reduceGT, Int.reduceEq, Int.reduceNe, Int.reduceAdd, Int.reduceSub, Int.reduceNeg, decide_true, decide_false, Int.toNat_natCast, reduceCtorEq, List.nil_append, List.cons_append, AV.boxy, AV.cells, List.length_cons, List.length_nil, Nat.beq_refl, AOp.cl, ↓OW_guard, ↓DW_guard, KDW_0, KDW_1, KDW_2, OWskip_eq, DWskip_eq, fillA, setAt, DChk, DAt, stepA, ble_dec, beq_dec, Bool.and_self, Bool.and_true, Bool.true_and, Bool.and_false, Bool.false_and, List.take_succ_cons, List.take_zero, List.drop_succ_cons, List.drop_zero, List.take_nil, List.drop_nil, List.append_nil, eqAV, eqAVL, BEq.rfl, eqA, eqD, sameS, Option.map, Option.isNone, addrA, wrap64, gt_iff_lt, ge_iff_le, Int.lt_irrefl, Int.le_refl]
      refine WP_loop (fun k fr H' => fr.get 0 = some (.slice (some (x, 0)) 2 n false) ∧ fr.get 1 = some (.int .i64 0) ∧ fr.get 2 = some (.int .i64 n) ∧ fr.get 3 = some (.func (.func 77) [] []) ∧ fr.get 8 = some (.int .i64 i) ∧ fr.get 9 = some (.int .i64 k) ∧ H.next ≤ H'.next ∧ (∀ y, y < H.next → y ≠ x → ¬ P y → H'.get y = H.get y) ∧
        ∃ pre post, pre.length = k ∧ pre.length + post.length = i ∧ bub pre.reverse y0 post = isort (l.take (i + 1)) ∧ Arr H' x (slp (pre ++ y0 :: (post ++ r0))) P) i ?_ ?_
      · simp -implicitDefEqProofs only [g0, g1, g2, g3, g8, ↓WP_seq, ↓WP_skip, ↓WP_region, ↓WP_dregion, ↓WP_cond, ↓WP_block, ↓WP_exit, ↓WP_ret, ↓OW_nil, ↓OW_cons, ↓DW_nil, ↓DW_cons, ↓XW_call, XW, exA, KO_eq, KD_eq, OptK_some, EvK_some, GW2_true, GW2_false, KS_normal, KS_ret, KS_exit, KB_normal, KB_ret, KB_exit, CP2_bool, RP_ret, RP_normal, putA_some, putA_none, ev_t, ev_c, evs, evo, wantA, initA, resA, Tr.get_set, vl, chkOk, cond_true, cond_false, Nat.add_zero, Nat.mul_one, Nat.one_mul, Nat.zero_add, Nat.zero_mul, aggOf, pInt, binA, unA, intA, beq_true, beq_false, Bool.not_true, Bool.not_false, Bool.not_eq_true, and_self, and_true, true_and, ↓reduceIte, reduceIte, Nat.reduceEqDiff, Nat.succ_ne_self, Nat.reduceAdd, Nat.reduceMul, Nat.reduceSub, Nat.reduceBEq, Nat.reduceLT, Nat.reduceLeDiff, Int.cast_ofNat_Int, Int.reduceToNat, Int.reduceLT, Int.reduceLE, Int.reduceGE, Int.reduceGT, Int.reduceEq, Int.reduceNe, Int.reduceAdd, Int.reduceSub, Int.reduceNeg, decide_true, decide_false, Int.toNat_natCast, reduceCtorEq, List.nil_append, List.cons_append, AV.boxy, AV.cells, List.length_cons, List.length_nil, Nat.beq_refl, AOp.cl, ↓OW_guard, ↓DW_guard, KDW_0, KDW_1, KDW_2, OWskip_eq, DWskip_eq, fillA, setAt, DChk, DAt, stepA, ble_dec, beq_dec, Bool.and_self, Bool.and_true, Bool.true_and, Bool.and_false, Bool.false_and, List.take_succ_cons, List.take_zero, List.drop_succ_cons, List.drop_zero, List.take_nil, List.drop_nil, List.append_nil, eqAV, eqAVL, BEq.rfl, eqA, eqD, sameS, Option.map, Option.isNone, addrA, wrap64, gt_iff_lt, ge_iff_le, Int.lt_irrefl, Int.le_refl]
        refine ⟨hnx, hfr, isort (l.take i), [], by rw [isort_len]; simp; omega, by rw [isort_len]; simp; omega, by rw [ht, isort_snoc], ?_⟩
        rw [hd] at ha
        exact ha
      · rintro j fr H2 ⟨f0, f1, f2, f3, f8, f9, hnx2, hfr2, pre, post, hpl, hpl2, hb, ha2⟩
        have fin : Arr H2 x (slp (isort (l.take (i + 1)) ++ l.drop (i + 1))) P → ∃ m, m < k ∧ ∃ i', m = n - i' ∧ 1 ≤ i' ∧ (i' ≤ n ∨ i' = 1) ∧ ((i : Int) + 1 : Int) = i' ∧ H.next ≤ H2.next ∧ Arr H2 x (slp (isort (l.take i') ++ l.drop i')) P ∧ ∀ y, y < H.next → y ≠ x → ¬ P y → H2.get y = H.get y := fun q =>
          ⟨n - (i + 1), by omega, i + 1, rfl, by omega, by omega, by simp, hnx2, q, hfr2⟩
        have hw : IntKind.i64.wrap ((i : Int) + 1) = (i : Int) + 1 := wrap64 (by omega) (by omega)
        cases j with
        | zero =>
          have hp : pre = [] := by simpa using hpl
          subst hp
          have e1 : isort (l.take (i + 1)) ++ l.drop (i + 1) = [] ++ y0 :: (post ++ r0) := by rw [← hb, hd1]; simp [bub]
          rw [e1] at fin
          obtain ⟨m, hm, i', q1, q2, q3, q4, q5, q6, q7⟩ := fin ha2
          simp -implicitDefEqProofs only [f0, f1, f2, f3, f8, f9, hw, Bool.false_eq_true, ↓WP_seq, ↓WP_skip, ↓WP_region, ↓WP_dregion, ↓WP_cond, ↓WP_block, ↓WP_exit, ↓WP_ret, ↓OW_nil, ↓OW_cons, ↓DW_nil, ↓DW_cons, ↓XW_call, XW, exA, KO_eq, KD_eq, OptK_some, EvK_some, GW2_true, GW2_false, KS_normal, KS_ret, KS_exit, KB_normal, KB_ret, KB_exit, CP2_bool, RP_ret, RP_normal, putA_some, putA_none, ev_t, ev_c, evs, evo, wantA, initA, resA, Tr.get_set, vl, chkOk, cond_true, cond_false, Nat.add_zero, Nat.mul_one, Nat.one_mul, Nat.zero_add, Nat.zero_mul, aggOf, pInt, binA, unA, intA, beq_true, beq_false, Bool.not_true, Bool.not_false, Bool.not_eq_true, and_self, and_true, true_and, ↓reduceIte, reduceIte, Nat.reduceEqDiff, Nat.succ_ne_self, Nat.reduceAdd, Nat.reduceMul, Nat.reduceSub, Nat.reduceBEq, Nat.reduceLT, Nat.reduceLeDiff, Int.cast_ofNat_Int, Int.reduceToNat, Int.reduceLT, Int.reduceLE, Int.reduceGE, Int.reduceGT, Int.reduceEq, Int.reduceNe, Int.reduceAdd, Int.reduceSub, Int.reduceNeg, decide_true, decide_false, Int.toNat_natCast, reduceCtorEq, List.nil_append, List.cons_append, AV.boxy, AV.cells, List.length_cons, List.length_nil, Nat.beq_refl, AOp.cl, ↓OW_guard, ↓DW_guard, KDW_0, KDW_1, KDW_2, OWskip_eq, DWskip_eq, fillA, setAt, DChk, DAt, stepA, ble_dec, beq_dec, Bool.and_self, Bool.and_true, Bool.true_and, Bool.and_false, Bool.false_and, List.take_succ_cons, List.take_zero, List.drop_succ_cons, List.drop_zero, List.take_nil, List.drop_nil, List.append_nil, eqAV, eqAVL, BEq.rfl, eqA, eqD, sameS, Option.map, Option.isNone, addrA, wrap64, gt_iff_lt, ge_iff_le, Int.lt_irrefl, Int.le_refl]
          refine ⟨m, hm, i', q1, q2, q3, ?_⟩
          rw [q4]
          exact ⟨rfl, q5, q6, q7⟩
        | succ j =>
          obtain ⟨pre', y1, rfl⟩ : ∃ p y, pre = p ++ [y] := by
            rcases List.eq_nil_or_concat pre with rfl | ⟨p, y, rfl⟩
            · simp at hpl
            · exact ⟨p, y, by simp⟩
          have hj : pre'.length = j := by simp at hpl; exact hpl
          have hj0 : (0 : Int) < ((j + 1 : Nat) : Int) := by omega
          have hj1 : (0 : Int) ≤ ((j + 1 : Nat) : Int) := by omega
          have hj2 : ((j + 1 : Nat) : Int) < n := by simp at hpl2; omega
          have hj3 : (0 : Int) ≤ (j : Int) := by omega
          have hj4 : (j : Int) < n := by omega
          have hw2 : IntKind.i64.wrap (((j + 1 : Nat) : Int) - 1) = (j : Int) := by rw [wrap64 (by omega) (by omega)]; omega
          have ld1 := ha2.rd.two (l1 := pre' ++ [y1]) (i := j + 1) (by simp [hj])
          have ha3 : Arr H2 x (slp (pre' ++ y1 :: (y0 :: (post ++ r0)))) P := by simpa using ha2
          have ld2 := ha3.rd.two (i := j) hj
          rw [Nat.zero_add] at ld1 ld2
          simp -implicitDefEqProofs only [f0, f1, f2, f3, f8, f9, hj0, hj1, hj2, hj3, hj4, hw2, ld1, ld2, ↓WP_seq, ↓WP_skip, ↓WP_region, ↓WP_dregion, ↓WP_cond, ↓WP_block, ↓WP_exit, ↓WP_ret, ↓OW_nil, ↓OW_cons, ↓DW_nil, ↓DW_cons, ↓XW_call, XW, exA, KO_eq, KD_eq, OptK_some, EvK_some, GW2_true, GW2_false, KS_normal, KS_ret, KS_exit, KB_normal, KB_ret, KB_exit, CP2_bool, RP_ret, RP_normal, putA_some, putA_none, ev_t, ev_c, evs, evo, wantA, initA, resA, Tr.get_set, vl, chkOk, cond_true, cond_false, Nat.add_zero, Nat.mul_one, Nat.one_mul, Nat.zero_add, Nat.zero_mul, aggOf, pInt, binA, unA, intA, beq_true, beq_false, Bool.not_true, Bool.not_false, Bool.not_eq_true, and_self, and_true, true_and, ↓reduceIte, reduceIte, Nat.reduceEqDiff, Nat.succ_ne_self, Nat.reduceAdd, Nat.reduceMul, Nat.reduceSub, Nat.reduceBEq, Nat.reduceLT, Nat.reduceLeDiff, Int.cast_ofNat_Int, Int.reduceToNat, Int.reduceLT, Int.reduceLE, Int.reduceGE, Int.reduceGT, Int.reduceEq, Int.reduceNe, Int.reduceAdd, Int.reduceSub, Int.reduceNeg, decide_true, decide_false, Int.toNat_natCast, reduceCtorEq, List.nil_append, List.cons_append, AV.boxy, AV.cells, List.length_cons, List.length_nil, Nat.beq_refl, AOp.cl, ↓OW_guard, ↓DW_guard, KDW_0, KDW_1, KDW_2, OWskip_eq, DWskip_eq, fillA, setAt, DChk, DAt, stepA, ble_dec, beq_dec, Bool.and_self, Bool.and_true, Bool.true_and, Bool.and_false, Bool.false_and, List.take_succ_cons, List.take_zero, List.drop_succ_cons, List.drop_zero, List.take_nil, List.drop_nil, List.append_nil, eqAV, eqAVL, BEq.rfl, eqA, eqD, sameS, Option.map, Option.isNone, addrA, wrap64, gt_iff_lt, ge_iff_le, Int.lt_irrefl, Int.le_refl]
          refine CW.mono (c_cmp _ _ _ _ H2) ?_
          rintro v H3 ⟨rfl, ch⟩
          have ha4 : Arr H3 x (slp (pre' ++ y1 :: (y0 :: (post ++ r0)))) P := ha3.keep ch.1 (ch.keep ha3.1 (by simp))
          have ld3 := ha4.rd.two (i := j) hj
          have ha5 : Arr H3 x (slp ((pre' ++ [y1]) ++ y0 :: (post ++ r0))) P := by simpa using ha4
          have ld4 := ha5.rd.two (l1 := pre' ++ [y1]) (i := j + 1) (by simp [hj])
          rw [Nat.zero_add] at ld3 ld4
          have hfr3 : ∀ y, y < H.next → y ≠ x → ¬ P y → H3.get y = H.get y := fun y hy h1 h2 => by rw [ch.keep (by omega) (by simp), hfr2 y hy h1 h2]
          have hnx3 : H.next ≤ H3.next := Nat.le_trans hnx2 ch.1
          by_cases hc : y0.2 < y1.2
          · have hcc : cmpI y0.2 y1.2 < 0 := by simp [cmpI, hc]
            have hs5 := slp_len ((pre' ++ [y1]) ++ y0 :: (post ++ r0))
            obtain ⟨H4, st1, n4, ar4, fr4⟩ := ha5.store (o := (j + 1) * 2) (vs := [.int .i64 y1.1, .int .i64 y1.2]) (by rw [hs5]; simp; omega) (slp_set (i := j + 1) (l1 := pre' ++ [y1]) (l2 := post ++ r0) (y := y0) (z := y1) (by simp [hj])).symm
            have ar4' : Arr H4 x (slp (pre' ++ y1 :: (y1 :: (post ++ r0)))) P := by simpa using ar4
            have hs6 := slp_len (pre' ++ y1 :: (y1 :: (post ++ r0)))
            obtain ⟨H5, st2, n5, ar5, fr5⟩ := ar4'.store (o := j * 2) (vs := [.int .i64 y0.1, .int .i64 y0.2]) (by rw [hs6]; simp; omega) (slp_set (i := j) (l1 := pre') (l2 := y1 :: (post ++ r0)) (y := y1) (z := y0) hj).symm
            simp -implicitDefEqProofs only [f0, f1, f2, f3, f8, f9, hj0, hj1, hj2, hj3, hj4, hw2, ld1, ld2, ld3, ld4, st1, st2, hcc, iv, ↓WP_seq, ↓WP_skip, ↓WP_region, ↓WP_dregion, ↓WP_cond, ↓WP_block, ↓WP_exit, ↓WP_ret, ↓OW_nil, ↓OW_cons, ↓DW_nil, ↓DW_cons, ↓XW_call, XW, exA, KO_eq, KD_eq, OptK_some, EvK_some, GW2_true, GW2_false, KS_normal, KS_ret, KS_exit, KB_normal, KB_ret, KB_exit, CP2_bool, RP_ret, RP_normal, putA_some, putA_none, ev_t, ev_c, evs, evo, wantA, initA, resA, Tr.get_set, vl, chkOk, cond_true, cond_false, Nat.add_zero, Nat.mul_one, Nat.one_mul, Nat.zero_add, Nat.zero_mul, aggOf, pInt, binA, unA, intA, beq_true, beq_false, Bool.not_true, Bool.not_false, Bool.not_eq_true, and_self, and_true, true_and, ↓reduceIte, reduceIte, Nat.reduceEqDiff, Nat.succ_ne_self, Nat.reduceAdd, Nat.reduceMul, Nat.reduceSub, Nat.reduceBEq, Nat.reduceLT, Nat.reduceLeDiff, Int.cast_ofNat_Int, Int.reduceToNat, Int.reduceLT, Int.reduceLE, Int.reduceGE, Int.reduceGT, Int.reduceEq, Int.reduceNe, Int.reduceAdd, Int.reduceSub, Int.reduceNeg, decide_true, decide_false, Int.toNat_natCast, reduceCtorEq, List.nil_append, List.cons_append, AV.boxy, AV.cells, List.length_cons, List.length_nil, Nat.beq_refl, AOp.cl, ↓OW_guard, ↓DW_guard, KDW_0, KDW_1, KDW_2, OWskip_eq, DWskip_eq, fillA, setAt, DChk, DAt, stepA, ble_dec, beq_dec, Bool.and_self, Bool.and_true, Bool.true_and, Bool.and_false, Bool.false_and, List.take_succ_cons, List.take_zero, List.drop_succ_cons, List.drop_zero, List.take_nil, List.drop_nil, List.append_nil, eqAV, eqAVL, BEq.rfl, eqA, eqD, sameS, Option.map, Option.isNone, addrA, wrap64, gt_iff_lt, ge_iff_le, Int.lt_irrefl, Int.le_refl]
            refine ⟨j, by omega, rfl, by omega, fun y hy h1 h2 => by rw [fr5 y h1 h2, fr4 y h1 h2, hfr3 y hy h1 h2], pre', y1 :: post, hj, by simp at hpl2 ⊢; omega, ?_, ar5⟩
            rw [← hb]
            simp [bub, hc]
          · have hcc : ¬ cmpI y0.2 y1.2 < 0 := by simp only [cmpI, hc, if_false]; split <;> omega
            have e1 : isort (l.take (i + 1)) ++ l.drop (i + 1) = (pre' ++ [y1]) ++ y0 :: (post ++ r0) := by rw [← hb, hd1]; simp [bub, hc]
            simp -implicitDefEqProofs only [f0, f1, f2, f3, f8, f9, hj0, hj1, hj2, hj3, hj4, hw2, ld1, ld2, ld3, ld4, hcc, iv, hw, Bool.false_eq_true, ↓WP_seq, ↓WP_skip, ↓WP_region, ↓WP_dregion, ↓WP_cond, ↓WP_block, ↓WP_exit, ↓WP_ret, ↓OW_nil, ↓OW_cons, ↓DW_nil, ↓DW_cons, ↓XW_call, XW, exA, KO_eq, KD_eq, OptK_some, EvK_some, GW2_true, GW2_false, KS_normal, KS_ret, KS_exit, KB_normal, KB_ret, KB_exit, CP2_bool, RP_ret, RP_normal, putA_some, putA_none, ev_t, ev_c, evs, evo, wantA, initA, resA, Tr.get_set, vl, chkOk, cond_true, cond_false, Nat.add_zero, Nat.mul_one, Nat.one_mul, Nat.zero_add, Nat.zero_mul, aggOf, pInt, binA, unA, intA, beq_true, beq_false, Bool.not_true, Bool.not_false, Bool.not_eq_true, and_self, and_true, true_and, ↓reduceIte, reduceIte, Nat.reduceEqDiff, Nat.succ_ne_self, Nat.reduceAdd, Nat.reduceMul, Nat.reduceSub, Nat.reduceBEq, Nat.reduceLT, Nat.reduceLeDiff, Int.cast_ofNat_Int, Int.reduceToNat, Int.reduceLT, Int.reduceLE, Int.reduceGE, Int.reduceGT, Int.reduceEq, Int.reduceNe, Int.reduceAdd, Int.reduceSub, Int.reduceNeg, decide_true, decide_false, Int.toNat_natCast, reduceCtorEq, List.nil_append, List.cons_append, AV.boxy, AV.cells, List.length_cons, List.length_nil, Nat.beq_refl, AOp.cl, ↓OW_guard, ↓DW_guard, KDW_0, KDW_1, KDW_2, OWskip_eq, DWskip_eq, fillA, setAt, DChk, DAt, stepA, ble_dec, beq_dec, Bool.and_self, Bool.and_true, Bool.true_and, Bool.and_false, Bool.false_and, List.take_succ_cons, List.take_zero, List.drop_succ_cons, List.drop_zero, List.take_nil, List.drop_nil, List.append_nil, eqAV, eqAVL, BEq.rfl, eqA, eqD, sameS, Option.map, Option.isNone, addrA, wrap64, gt_iff_lt, ge_iff_le, Int.lt_irrefl, Int.le_refl]
            refine ⟨n - (i + 1), by omega, i + 1, rfl, by omega, by omega, by simp, hnx3, ?_, hfr3⟩
            rw [e1]
            exact ha5
    · have hlt' : ¬ (i : Int) < n := by omega
      have e1 : l.take i = l := List.take_of_length_le (by omega)
      have e2 : l.drop i = [] := List.drop_eq_nil_of_le (by omega)
      rw [e1, e2, List.append_nil] at ha
      simp -implicitDefEqProofs only [g0, g1, g2, g3, g8, hlt', Bool.false_eq_true, ↓WP_seq, ↓WP_skip, ↓WP_region, ↓WP_dregion, ↓WP_cond, ↓WP_block, ↓WP_exit, ↓WP_ret, ↓OW_nil, ↓OW_cons, ↓DW_nil, ↓DW_cons, ↓XW_call, XW, exA, KO_eq, KD_eq, OptK_some, EvK_some, GW2_true, GW2_false, KS_normal, KS_ret, KS_exit, KB_normal, KB_ret, KB_exit, CP2_bool, RP_ret, RP_normal, putA_some, putA_none, ev_t, ev_c, evs, evo, wantA, initA, resA, Tr.get_set, vl, chkOk, cond_true, cond_false, Nat.add_zero, Nat.mul_one, Nat.one_mul, Nat.zero_add, Nat.zero_mul, aggOf, pInt, binA, unA, intA, beq_true, beq_false, Bool.not_true, Bool.not_false, Bool.not_eq_true, and_self, and_true, true_and, ↓reduceIte, reduceIte, Nat.reduceEqDiff, Nat.succ_ne_self, Nat.reduceAdd, Nat.reduceMul, Nat.reduceSub, Nat.reduceBEq, Nat.reduceLT, Nat.reduceLeDiff, Int.cast_ofNat_Int, Int.reduceToNat, Int.reduceLT, Int.reduceLE, Int.reduceGE, Int.reduceGT, Int.reduceEq, Int.reduceNe, Int.reduceAdd, Int.reduceSub, Int.reduceNeg, decide_true, decide_false, Int.toNat_natCast, reduceCtorEq, List.nil_append, List.cons_append, AV.boxy, AV.cells, List.length_cons, List.length_nil, Nat.beq_refl, AOp.cl, ↓OW_guard, ↓DW_guard, KDW_0, KDW_1, KDW_2, OWskip_eq, DWskip_eq, fillA, setAt, DChk, DAt, stepA, ble_dec, beq_dec, Bool.and_self, Bool.and_true, Bool.true_and, Bool.and_false, Bool.false_and, List.take_succ_cons, List.take_zero, List.drop_succ_cons, List.drop_zero, List.take_nil, List.drop_nil, List.append_nil, eqAV, eqAVL, BEq.rfl, eqA, eqD, sameS, Option.map, Option.isNone, addrA, wrap64, gt_iff_lt, ge_iff_le, Int.lt_irrefl, Int.le_refl]
      exact ⟨hnx, ha, hfr⟩
end Go.Proofs.Ytldlolpbnfgdeaa.AA
namespace Go.Proofs.Ytldlolpbnfgdeaa.AA
open Go Go.RowKit
set_option maxRecDepth 100000
set_option maxHeartbeats 1000000
theorem c_stable {H : AHeap} {x n : Nat} {l : List (Nat × Int)} {P : Nat → Prop} (h : Arr H x (slp l) P) (hn : l.length = n) (h6 : n ≤ 6) (hP : ∀ z, P z → z ≠ x) :
    CW M0 94 [.slice (some (x, 0)) 2 n false, iv n, .func (.func 77) [] []] H fun _ H' => H.next ≤ H'.next ∧ Arr H' x (slp (isort l)) P ∧ ∀ y, y < H.next → y ≠ x → ¬ P y → H'.get y = H.get y := by
  refine CW_of (fn := af94) rfl ?_
  unfold af94
  have hn20 : ¬ (20 : Int) ≤ n := by omega
  have hn21 : ¬ (20 : Int) < n := by omega
  simp -implicitDefEqProofs only [iv, ↓WP_seq, ↓WP_skip, ↓WP_region, ↓WP_dregion, ↓WP_cond, ↓WP_block, ↓WP_exit, ↓WP_ret, ↓OW_nil, ↓OW_cons, ↓DW_nil, ↓DW_cons, ↓XW_call, XW, exA, KO_eq, KD_eq, OptK_some, EvK_some, GW2_true, GW2_false, KS_normal, KS_ret, KS_exit, KB_normal, KB_ret, KB_exit, CP2_bool, RP_ret, RP_normal, putA_some, putA_none, ev_t, ev_c, evs, evo, wantA, initA, resA, Tr.get_set, vl, chkOk, cond_true, cond_false, Nat.add_zero, Nat.mul_one, Nat.one_mul, Nat.zero_add, Nat.zero_mul, aggOf, pInt, binA, unA, intA, beq_true, beq_false, Bool.not_true, Bool.not_false, Bool.not_eq_true, and_self, and_true, true_and, ↓reduceIte, reduceIte, Nat.reduceEqDiff, Nat.succ_ne_self, Nat.reduceAdd, Nat.reduceMul, Nat.reduceSub, Nat.reduceBEq, Nat.reduceLT, Nat.reduceLeDiff, Int.cast_ofNat_Int, Int.reduceToNat, Int.reduceLT, Int.reduceLE, Int.reduceGE, Int.reduceGT, Int.reduceEq, Int.reduceNe, Int.reduceAdd, Int.reduceSub, Int.reduceNeg, decide_true, decide_false, Int.toNat_natCast, reduceCtorEq, List.nil_append, List.cons_append, AV.boxy, AV.cells, List.length_cons, List.length_nil, Nat.beq_refl, AOp.cl, ↓OW_guard, ↓DW_guard, KDW_0, KDW_1, KDW_2, OWskip_eq, DWskip_eq, fillA, setAt, DChk, DAt, stepA, ble_dec, beq_dec, Bool.and_self, Bool.and_true, Bool.true_and, Bool.and_false, Bool.false_and, List.take_succ_cons, List.take_zero, List.drop_succ_cons, List.drop_zero, List.take_nil, List.drop_nil, List.append_nil, eqAV, eqAVL, BEq.rfl, eqA, eqD, sameS, Option.map, Option.isNone, addrA, wrap64, gt_iff_lt, ge_iff_le, Int.lt_irrefl, Int.le_refl]
  refine ⟨1, ?_⟩
  simp -implicitDefEqProofs only [LP_succ, hn20, Bool.false_eq_true, ↓WP_seq, ↓WP_skip, ↓WP_region, ↓WP_dregion, ↓WP_cond, ↓WP_block, ↓WP_exit, ↓WP_ret, ↓OW_nil, ↓OW_cons, ↓DW_nil, ↓DW_cons, ↓XW_call, XW, exA, KO_eq, KD_eq, OptK_some, EvK_some, GW2_true, GW2_false, KS_normal, KS_ret, KS_exit, KB_normal, KB_ret, KB_exit, CP2_bool, RP_ret, RP_normal, putA_some, putA_none, ev_t, ev_c, evs, evo, wantA, initA, resA, Tr.get_set, vl, chkOk, cond_true, cond_false, Nat.add_zero, Nat.mul_one, Nat.one_mul, Nat.zero_add, Nat.zero_mul, aggOf, pInt, binA, unA, intA, beq_true, beq_false, Bool.not_true, Bool.not_false, Bool.not_eq_true, and_self, and_true, true_and, ↓reduceIte, reduceIte, Nat.reduceEqDiff, Nat.succ_ne_self, Nat.reduceAdd, Nat.reduceMul, Nat.reduceSub, Nat.reduceBEq, Nat.reduceLT, Nat.reduceLeDiff, Int.cast_ofNat_Int, Int.reduceToNat, Int.reduceLT, Int.reduceLE, Int.reduceGE, Int.reduceGT, Int.reduceEq, Int.reduceNe, Int.reduceAdd, Int.reduceSub, Int.reduceNeg, decide_true, decide_false, Int.toNat_natCast, reduceCtorEq, List.nil_append, List.cons_append, AV.boxy, AV.cells, List.length_cons, List.length_nil, Nat.beq_refl, AOp.cl, ↓OW_guard, ↓DW_guard, KDW_0, KDW_1, KDW_2, OWskip_eq, DWskip_eq, fillA, setAt, DChk, DAt, stepA, ble_dec, beq_dec, Bool.and_self, Bool.and_true, Bool.true_and, Bool.and_false, Bool.false_and, List.take_succ_cons, List.take_zero, List.drop_succ_cons, List.drop_zero, List.take_nil, List.drop_nil, List.append_nil, eqAV, eqAVL, BEq.rfl, eqA, eqD, sameS, Option.map, Option.isNone, addrA, wrap64, gt_iff_lt, ge_iff_le, Int.lt_irrefl, Int.le_refl]
  refine CW.mono (c_isort h hn h6 hP) ?_
  intro v H' hq
  simp -implicitDefEqProofs only [↓WP_seq, ↓WP_skip, ↓WP_region, ↓WP_dregion, ↓WP_cond, ↓WP_block, ↓WP_exit, ↓WP_ret, ↓OW_nil, ↓OW_cons, ↓DW_nil, ↓DW_cons, ↓XW_call, XW, exA, KO_eq, KD_eq, OptK_some, EvK_some, GW2_true, GW2_false, KS_normal, KS_ret, KS_exit, KB_normal, KB_ret, KB_exit, CP2_bool, RP_ret, RP_normal, putA_some, putA_none, ev_t, ev_c, evs, evo, wantA, initA, resA, Tr.get_set, vl, chkOk, cond_true, cond_false, Nat.add_zero, Nat.mul_one, Nat.one_mul, Nat.zero_add, Nat.zero_mul, aggOf, pInt, binA, unA, intA, beq_true, beq_false, Bool.not_true, Bool.not_false, Bool.not_eq_true, and_self, and_true, true_and, ↓reduceIte, reduceIte, Nat.reduceEqDiff, Nat.succ_ne_self, Nat.reduceAdd, Nat.reduceMul, Nat.reduceSub, Nat.reduceBEq, Nat.reduceLT, Nat.reduceLeDiff, Int.cast_ofNat_Int, Int.reduceToNat, Int.reduceLT, Int.reduceLE, Int.reduceGE, Int.reduceGT, Int.reduceEq, Int.reduceNe, Int.reduceAdd, Int.reduceSub, Int.reduceNeg, decide_true, decide_false, Int.toNat_natCast, reduceCtorEq, List.nil_append, List.cons_append, AV.boxy, AV.cells, List.length_cons, List.length_nil, Nat.beq_refl, AOp.cl, ↓OW_guard, ↓DW_guard, KDW_0, KDW_1, KDW_2, OWskip_eq, DWskip_eq, fillA, setAt, DChk, DAt, stepA, ble_dec, beq_dec, Bool.and_self, Bool.and_true, Bool.true_and, Bool.and_false, Bool.false_and, List.take_succ_cons, List.take_zero, List.drop_succ_cons, List.drop_zero, List.take_nil, List.drop_nil, List.append_nil, eqAV, eqAVL, BEq.rfl, eqA, eqD, sameS, Option.map, Option.isNone, addrA, wrap64, gt_iff_lt, ge_iff_le, Int.lt_irrefl, Int.le_refl]
  refine ⟨1, ?_⟩
  simp -implicitDefEqProofs only [LP_succ, hn21, Bool.false_eq_true, ↓WP_seq, ↓WP_skip, ↓WP_region, ↓WP_dregion, ↓WP_cond, ↓WP_block, ↓WP_exit, ↓WP_ret, ↓OW_nil, ↓OW_cons, ↓DW_nil, ↓DW_cons, ↓XW_call, XW, exA, KO_eq, KD_eq, OptK_some, EvK_some, GW2_true, GW2_false, KS_normal, KS_ret, KS_exit, KB_normal, KB_ret, KB_exit, CP2_bool, RP_ret, RP_normal, putA_some, putA_none, ev_t, ev_c, evs, evo, wantA, initA, resA, Tr.get_set, vl, chkOk, cond_true, cond_false, Nat.add_zero, Nat.mul_one, Nat.one_mul, Nat.zero_add, Nat.zero_mul, aggOf, pInt, binA, unA, intA, beq_true, beq_false, Bool.not_true, Bool.not_false, Bool.not_eq_true, and_self, and_true, true_and, ↓reduceIte, reduceIte, Nat.reduceEqDiff, Nat.succ_ne_self, Nat.reduceAdd, Nat.reduceMul, Nat.reduceSub, Nat.reduceBEq, Nat.reduceLT, Nat.reduceLeDiff, Int.cast_ofNat_Int, Int.reduceToNat, Int.reduceLT, Int.reduceLE, Int.reduceGE, Int.reduceGT, Int.reduceEq, Int.reduceNe, Int.reduceAdd, Int.reduceSub, Int.reduceNeg, decide_true, decide_false, Int.toNat_natCast, reduceCtorEq, List.nil_append, List.cons_append, AV.boxy, AV.cells, List.length_cons, List.length_nil, Nat.beq_refl, AOp.cl, ↓OW_guard, ↓DW_guard, KDW_0, KDW_1, KDW_2, OWskip_eq, DWskip_eq, fillA, setAt, DChk, DAt, stepA, ble_dec, beq_dec, Bool.and_self, Bool.and_true, Bool.true_and, Bool.and_false, Bool.false_and, List.take_succ_cons, List.take_zero, List.drop_succ_cons, List.drop_zero, List.take_nil, List.drop_nil, List.append_nil, eqAV, eqAVL, BEq.rfl, eqA, eqD, sameS, Option.map, Option.isNone, addrA, wrap64, gt_iff_lt, ge_iff_le, Int.lt_irrefl, Int.le_refl]
  exact hq
theorem c_SortS {H : AHeap} {x n : Nat} {l : List (Nat × Int)} {P : Nat → Prop} (h : Arr H x (slp l) P) (hn : l.length = n) (h6 : n ≤ 6) (hP : ∀ z, P z → z ≠ x) :
    CW M0 76 [.slice (some (x, 0)) 2 n false, .func (.func 77) [] []] H fun _ H' => H.next ≤ H'.next ∧ Arr H' x (slp (isort l)) P ∧ ∀ y, y < H.next → y ≠ x → ¬ P y → H'.get y = H.get y := by
  refine CW_of (fn := af76) rfl ?_
  unfold af76
  simp -implicitDefEqProofs only [↓WP_seq, ↓WP_skip, ↓WP_region, ↓WP_dregion, ↓WP_cond, ↓WP_block, ↓WP_exit, ↓WP_ret, ↓OW_nil, ↓OW_cons, ↓DW_nil, ↓DW_cons, ↓XW_call, XW, exA, KO_eq, KD_eq, OptK_some, EvK_some, GW2_true, GW2_false, KS_normal, KS_ret, KS_exit, KB_normal, KB_ret, KB_exit, CP2_bool, RP_ret, RP_normal, putA_some, putA_none, ev_t, ev_c, evs, evo, wantA, initA, resA, Tr.get_set, vl, chkOk, cond_true, cond_false, Nat.add_zero, Nat.mul_one, Nat.one_mul, Nat.zero_add, Nat.zero_mul, aggOf, pInt, binA, unA, intA, beq_true, beq_false, Bool.not_true, Bool.not_false, Bool.not_eq_true, and_self, and_true, true_and, ↓reduceIte, reduceIte, Nat.reduceEqDiff, Nat.succ_ne_self, Nat.reduceAdd, Nat.reduceMul, Nat.reduceSub, Nat.reduceBEq, Nat.reduceLT, Nat.reduceLeDiff, Int.cast_ofNat_Int, Int.reduceToNat, Int.reduceLT, Int.reduceLE, Int.reduceGE, Int.reduceGT, Int.reduceEq, Int.reduceNe, Int.reduceAdd, Int.reduceSub, Int.reduceNeg, decide_true, decide_false, Int.toNat_natCast, reduceCtorEq, List.nil_append, List.cons_append, AV.boxy, AV.cells, List.length_cons, List.length_nil, Nat.beq_refl, AOp.cl, ↓OW_guard, ↓DW_guard, KDW_0, KDW_1, KDW_2, OWskip_eq, DWskip_eq, fillA, setAt, DChk, DAt, stepA, ble_dec, beq_dec, Bool.and_self, Bool.and_true, Bool.true_and, Bool.and_false, Bool.false_and, List.take_succ_cons, List.take_zero, List.drop_succ_cons, List.drop_zero, List.take_nil, List.drop_nil, List.append_nil, eqAV, eqAVL, BEq.rfl, eqA, eqD, sameS, Option.map, Option.isNone, addrA, wrap64, gt_iff_lt, ge_iff_le, Int.lt_irrefl, Int.le_refl]
  refine CW.mono (c_stable h hn h6 hP) ?_
  intro v H' hq
  simp -implicitDefEqProofs only [↓WP_seq, ↓WP_skip, ↓WP_region, ↓WP_dregion, ↓WP_cond, ↓WP_block, ↓WP_exit, ↓WP_ret, ↓OW_nil, ↓OW_cons, ↓DW_nil, ↓DW_cons, ↓XW_call, XW, exA, KO_eq, KD_eq, OptK_some, EvK_some, GW2_true, GW2_false, KS_normal, KS_ret, KS_exit, KB_normal, KB_ret, KB_exit, CP2_bool, RP_ret, RP_normal, putA_some, putA_none, ev_t, ev_c, evs, evo, wantA, initA, resA, Tr.get_set, vl, chkOk, cond_true, cond_false, Nat.add_zero, Nat.mul_one, Nat.one_mul, Nat.zero_add, Nat.zero_mul, aggOf, pInt, binA, unA, intA, beq_true, beq_false, Bool.not_true, Bool.not_false, Bool.not_eq_true, and_self, and_true, true_and, ↓reduceIte, reduceIte, Nat.reduceEqDiff, Nat.succ_ne_self, Nat.reduceAdd, Nat.reduceMul, Nat.reduceSub, Nat.reduceBEq, Nat.reduceLT, Nat.reduceLeDiff, Int.cast_ofNat_Int, Int.reduceToNat, Int.reduceLT, Int.reduceLE, Int.reduceGE, Int.reduceGT, Int.reduceEq, Int.reduceNe, Int.reduceAdd, Int.reduceSub, Int.reduceNeg, decide_true, decide_false, Int.toNat_natCast, reduceCtorEq, List.nil_append, List.cons_append, AV.boxy, AV.cells, List.length_cons, List.length_nil, Nat.beq_refl, AOp.cl, ↓OW_guard, ↓DW_guard, KDW_0, KDW_1, KDW_2, OWskip_eq, DWskip_eq, fillA, setAt, DChk, DAt, stepA, ble_dec, beq_dec, Bool.and_self, Bool.and_true, Bool.true_and, Bool.and_false, Bool.false_and, List.take_succ_cons, List.take_zero, List.drop_succ_cons, List.drop_zero, List.take_nil, List.drop_nil, List.append_nil, eqAV, eqAVL, BEq.rfl, eqA, eqD, sameS, Option.map, Option.isNone, addrA, wrap64, gt_iff_lt, ge_iff_le, Int.lt_irrefl, Int.le_refl]
  exact hq
theorem c_SortNil {H : AHeap} {s0 : Nat} : CW M0 76 [.slice none s0 0 true, .func (.func 77) [] []] H fun _ H' => H' = H := by
  refine CW_of (fn := af76) rfl ?_
  unfold af76
  simp -implicitDefEqProofs only [↓WP_seq, ↓WP_skip, ↓WP_region, ↓WP_dregion, ↓WP_cond, ↓WP_block, ↓WP_exit, ↓WP_ret, ↓OW_nil, ↓OW_cons, ↓DW_nil, ↓DW_cons, ↓XW_call, XW, exA, KO_eq, KD_eq, OptK_some, EvK_some, GW2_true, GW2_false, KS_normal, KS_ret, KS_exit, KB_normal, KB_ret, KB_exit, CP2_bool, RP_ret, RP_normal, putA_some, putA_none, ev_t, ev_c, evs, evo, wantA, initA, resA, Tr.get_set, vl, chkOk, cond_true, cond_false, Nat.add_zero, Nat.mul_one, Nat.one_mul, Nat.zero_add, Nat.zero_mul, aggOf, pInt, binA, unA, intA, beq_true, beq_false, Bool.not_true, Bool.not_false, Bool.not_eq_true, and_self, and_true, true_and, ↓reduceIte, reduceIte, Nat.reduceEqDiff, Nat.succ_ne_self, Nat.reduceAdd, Nat.reduceMul, Nat.reduceSub, Nat.reduceBEq, Nat.reduceLT, Nat.reduceLeDiff, Int.cast_ofNat_Int, Int.reduceToNat, Int.reduceLT, Int.reduceLE, Int.reduceGE, Int.reduceGT, Int.reduceEq, Int.reduceNe, Int.reduceAdd, Int.reduceSub, Int.reduceNeg, decide_true, decide_false, Int.toNat_natCast, reduceCtorEq, List.nil_append, List.cons_append, AV.boxy, AV.cells, List.length_cons, List.length_nil, Nat.beq_refl, AOp.cl, ↓OW_guard, ↓DW_guard, KDW_0, KDW_1, KDW_2, OWskip_eq, DWskip_eq, fillA, setAt, DChk, DAt, stepA, ble_dec, beq_dec, Bool.and_self, Bool.and_true, Bool.true_and, Bool.and_false, Bool.false_and, List.take_succ_cons, List.take_zero, List.drop_succ_cons, List.drop_zero, List.take_nil, List.drop_nil, List.append_nil, eqAV, eqAVL, BEq.rfl, eqA, eqD, sameS, Option.map, Option.isNone, addrA, wrap64, gt_iff_lt, ge_iff_le, Int.lt_irrefl, Int.le_refl]
  refine CW.mono (Q := fun _ H' => H' = H) (CW_of (fn := af94) rfl ?_) ?_
  · unfold af94
    simp -implicitDefEqProofs only [↓WP_seq, ↓WP_skip, ↓WP_region, ↓WP_dregion, ↓WP_cond, ↓WP_block, ↓WP_exit, ↓WP_ret, ↓OW_nil, ↓OW_cons, ↓DW_nil, ↓DW_cons, ↓XW_call, XW, exA, KO_eq, KD_eq, OptK_some, EvK_some, GW2_true, GW2_false, KS_normal, KS_ret, KS_exit, KB_normal, KB_ret, KB_exit, CP2_bool, RP_ret, RP_normal, putA_some, putA_none, ev_t, ev_c, evs, evo, wantA, initA, resA, Tr.get_set, vl, chkOk, cond_true, cond_false, Nat.add_zero, Nat.mul_one, Nat.one_mul, Nat.zero_add, Nat.zero_mul, aggOf, pInt, binA, unA, intA, beq_true, beq_false, Bool.not_true, Bool.not_false, Bool.not_eq_true, and_self, and_true, true_and, ↓reduceIte, reduceIte, Nat.reduceEqDiff, Nat.succ_ne_self, Nat.reduceAdd, Nat.reduceMul, Nat.reduceSub, Nat.reduceBEq, Nat.reduceLT, Nat.reduceLeDiff, Int.cast_ofNat_Int, Int.reduceToNat, Int.reduceLT, Int.reduceLE, Int.reduceGE, Int.reduceGT, Int.reduceEq, Int.reduceNe, Int.reduceAdd, Int.reduceSub, Int.reduceNeg, decide_true, decide_false, Int.toNat_natCast, reduceCtorEq, List.nil_append, List.cons_append, AV.boxy, AV.cells, List.length_cons, List.length_nil, Nat.beq_refl, AOp.cl, ↓OW_guard, ↓DW_guard, KDW_0, KDW_1, KDW_2, OWskip_eq, DWskip_eq, fillA, setAt, DChk, DAt, stepA, ble_dec, beq_dec, Bool.and_self, Bool.and_true, Bool.true_and, Bool.and_false, Bool.false_and, List.take_succ_cons, List.take_zero, List.drop_succ_cons, List.drop_zero, List.take_nil, List.drop_nil, List.append_nil, eqAV, eqAVL, BEq.rfl, eqA, eqD, sameS, Option.map, Option.isNone, addrA, wrap64, gt_iff_lt, ge_iff_le, Int.lt_irrefl, Int.le_refl]
    refine ⟨1, ?_⟩
    simp -implicitDefEqProofs only [LP_succ, Bool.false_eq_true, ↓WP_seq, ↓WP_skip, ↓WP_region, ↓WP_dregion, ↓WP_cond, ↓WP_block, ↓WP_exit, ↓WP_ret, ↓OW_nil, ↓OW_cons, ↓DW_nil, ↓DW_cons, ↓XW_call, XW, exA, KO_eq, KD_eq, OptK_some, EvK_some, GW2_true, GW2_false, KS_normal, KS_ret, KS_exit, KB_normal, KB_ret, KB_exit, CP2_bool, RP_ret, RP_normal, putA_some, putA_none, ev_t, ev_c, evs, evo, wantA, initA, resA, Tr.get_set, vl, chkOk, cond_true, cond_false, Nat.add_zero, Nat.mul_one, Nat.one_mul, Nat.zero_add, Nat.zero_mul, aggOf, pInt, binA, unA, intA, beq_true, beq_false, Bool.not_true, Bool.not_false, Bool.not_eq_true, and_self, and_true, true_and, ↓reduceIte, reduceIte, Nat.reduceEqDiff, Nat.succ_ne_self, Nat.reduceAdd, Nat.reduceMul, Nat.reduceSub, Nat.reduceBEq, Nat.reduceLT, Nat.reduceLeDiff, Int.cast_ofNat_Int, Int.reduceToNat, Int.reduceLT, Int.reduceLE, Int.reduceGE, Int.reduceGT, Int.reduceEq, Int.reduceNe, Int.reduceAdd, Int.reduceSub, Int.reduceNeg, decide_true, decide_false, Int.toNat_natCast, reduceCtorEq, List.nil_append, List.cons_append, AV.boxy, AV.cells, List.length_cons, List.length_nil, Nat.beq_refl, AOp.cl, ↓OW_guard, ↓DW_guard, KDW_0, KDW_1, KDW_2, OWskip_eq, DWskip_eq, fillA, setAt, DChk, DAt, stepA, ble_dec, beq_dec, Bool.and_self, Bool.and_true, Bool.true_and, Bool.and_false, Bool.false_and, List.take_succ_cons, List.take_zero, List.drop_succ_cons, List.drop_zero, List.take_nil, List.drop_nil, List.append_nil, eqAV, eqAVL, BEq.rfl, eqA, eqD, sameS, Option.map, Option.isNone, addrA, wrap64, gt_iff_lt, ge_iff_le, Int.lt_irrefl, Int.le_refl]
    refine CW.mono (Q := fun _ H' => H' = H) (CW_of (fn := af102) rfl ?_) ?_
    · unfold af102
      simp -implicitDefEqProofs only [↓WP_seq, ↓WP_skip, ↓WP_region, ↓WP_dregion, ↓WP_cond, ↓WP_block, ↓WP_exit, ↓WP_ret, ↓OW_nil, ↓OW_cons, ↓DW_nil, ↓DW_cons, ↓XW_call, XW, exA, KO_eq, KD_eq, OptK_some, EvK_some, GW2_true, GW2_false, KS_normal, KS_ret, KS_exit, KB_normal, KB_ret, KB_exit, CP2_bool, RP_ret, RP_normal, putA_some, putA_none, ev_t, ev_c, evs, evo, wantA, initA, resA, Tr.get_set, vl, chkOk, cond_true, cond_false, Nat.add_zero, Nat.mul_one, Nat.one_mul, Nat.zero_add, Nat.zero_mul, aggOf, pInt, binA, unA, intA, beq_true, beq_false, Bool.not_true, Bool.not_false, Bool.not_eq_true, and_self, and_true, true_and, ↓reduceIte, reduceIte, Nat.reduceEqDiff, Nat.succ_ne_self, Nat.reduceAdd, Nat.reduceMul, Nat.reduceSub, Nat.reduceBEq, Nat.reduceLT, Nat.reduceLeDiff, Int.cast_ofNat_Int, Int.reduceToNat, Int.reduceLT, Int.reduceLE, Int.reduceGE, Int.reduceGT, Int.reduceEq, Int.reduceNe, Int.reduceAdd, Int.reduceSub, Int.reduceNeg, decide_true, decide_false, Int.toNat_natCast, reduceCtorEq, List.nil_append, List.cons_append, AV.boxy, AV.cells, List.length_cons, List.length_nil, Nat.beq_refl, AOp.cl, ↓OW_guard, ↓DW_guard, KDW_0, KDW_1, KDW_2, OWskip_eq, DWskip_eq, fillA, setAt, DChk, DAt, stepA, ble_dec, beq_dec, Bool.and_self, Bool.and_true, Bool.true_and, Bool.and_false, Bool.false_and, List.take_succ_cons, List.take_zero, List.drop_succ_cons, List.drop_zero, List.take_nil, List.drop_nil, List.append_nil, eqAV, eqAVL, BEq.rfl, eqA, eqD, sameS, Option.map, Option.isNone, addrA, wrap64, gt_iff_lt, ge_iff_le, Int.lt_irrefl, Int.le_refl]
      refine ⟨1, ?_⟩
      simp -implicitDefEqProofs only [LP_succ, Bool.false_eq_true, ↓WP_seq, ↓WP_skip, ↓WP_region, ↓WP_dregion, ↓WP_cond, ↓WP_block, ↓WP_exit, ↓WP_ret, ↓OW_nil, ↓OW_cons, ↓DW_nil, ↓DW_cons, ↓XW_call, XW, exA, KO_eq, KD_eq, OptK_some, EvK_some, GW2_true, GW2_false, KS_normal, KS_ret, KS_exit, KB_normal, KB_ret, KB_exit, CP2_bool, RP_ret, RP_normal, putA_some, putA_none, ev_t, ev_c, evs, evo, wantA, initA, resA, Tr.get_set, vl, chkOk, cond_true, cond_false, Nat.add_zero, Nat.mul_one, Nat.one_mul, Nat.zero_add, Nat.zero_mul, aggOf, pInt, binA, unA, intA, beq_true, beq_false, Bool.not_true, Bool.not_false, Bool.not_eq_true, and_self, and_true, true_and, ↓reduceIte, reduceIte, Nat.reduceEqDiff, Nat.succ_ne_self, Nat.reduceAdd, Nat.reduceMul, Nat.reduceSub, Nat.reduceBEq, Nat.reduceLT, Nat.reduceLeDiff, Int.cast_ofNat_Int, Int.reduceToNat, Int.reduceLT, Int.reduceLE, Int.reduceGE, Int.reduceGT, Int.reduceEq, Int.reduceNe, Int.reduceAdd, Int.reduceSub, Int.reduceNeg, decide_true, decide_false, Int.toNat_natCast, reduceCtorEq, List.nil_append, List.cons_append, AV.boxy, AV.cells, List.length_cons, List.length_nil, Nat.beq_refl, AOp.cl, ↓OW_guard, ↓DW_guard, KDW_0, KDW_1, KDW_2, OWskip_eq, DWskip_eq, fillA, setAt, DChk, DAt, stepA, ble_dec, beq_dec, Bool.and_self, Bool.and_true, Bool.true_and, Bool.and_false, Bool.false_and, List.take_succ_cons, List.take_zero, List.drop_succ_cons, List.drop_zero, List.take_nil, List.drop_nil, List.append_nil, eqAV, eqAVL, BEq.rfl, eqA, eqD, sameS, Option.map, Option.isNone, addrA, wrap64, gt_iff_lt, ge_iff_le, Int.lt_irrefl, Int.le_refl]
    · rintro v H' rfl
      simp -implicitDefEqProofs only [↓WP_seq, ↓WP_skip, ↓WP_region, ↓WP_dregion, ↓WP_cond, ↓WP_block, ↓WP_exit, ↓WP_ret, ↓OW_nil, ↓OW_cons, ↓DW_nil, ↓DW_cons, ↓XW_call, XW, exA, KO_eq, KD_eq, OptK_some, EvK_some, GW2_true, GW2_false, KS_normal, KS_ret, KS_exit, KB_normal, KB_ret, KB_exit, CP2_bool, RP_ret, RP_normal, putA_some, putA_none, ev_t, ev_c, evs, evo, wantA, initA, resA, Tr.get_set, vl, chkOk, cond_true, cond_false, Nat.add_zero, Nat.mul_one, Nat.one_mul, Nat.zero_add, Nat.zero_mul, aggOf, pInt, binA, unA, intA, beq_true, beq_false, Bool.not_true, Bool.not_false, Bool.not_eq_true, and_self, and_true, true_and, ↓reduceIte, reduceIte, Nat.reduceEqDiff, Nat.succ_ne_self, Nat.reduceAdd, Nat.reduceMul, Nat.reduceSub, Nat.reduceBEq, Nat.reduceLT, Nat.reduceLeDiff, Int.cast_ofNat_Int, Int.reduceToNat, Int.reduceLT, Int.reduceLE, Int.reduceGE, Int.reduceGT, Int.reduceEq, Int.reduceNe, Int.reduceAdd, Int.reduceSub, Int.reduceNeg, decide_true, decide_false, Int.toNat_natCast, reduceCtorEq, List.nil_append, List.cons_append, AV.boxy, AV.cells, List.length_cons, List.length_nil, Nat.beq_refl, AOp.cl, ↓OW_guard, ↓DW_guard, KDW_0, KDW_1, KDW_2, OWskip_eq, DWskip_eq, fillA, setAt, DChk, DAt, stepA, ble_dec, beq_dec, Bool.and_self, Bool.and_true, Bool.true_and, Bool.and_false, Bool.false_and, List.take_succ_cons, List.take_zero, List.drop_succ_cons, List.drop_zero, List.take_nil, List.drop_nil, List.append_nil, eqAV, eqAVL, BEq.rfl, eqA, eqD, sameS, Option.map, Option.isNone, addrA, wrap64, gt_iff_lt, ge_iff_le, Int.lt_irrefl, Int.le_refl]
      refine ⟨1, ?_⟩
      simp -implicitDefEqProofs only [LP_succ, Bool.false_eq_true, ↓WP_seq, ↓WP_skip, ↓WP_region, ↓WP_dregion, ↓WP_cond, ↓WP_block, ↓WP_exit, ↓WP_ret, ↓OW_nil, ↓OW_cons, ↓DW_nil, ↓DW_cons, ↓XW_call, XW, exA, KO_eq, KD_eq, OptK_some, EvK_some, GW2_true, GW2_false, KS_normal, KS_ret, KS_exit, KB_normal, KB_ret, KB_exit, CP2_bool, RP_ret, RP_normal, putA_some, putA_none, ev_t, ev_c, evs, evo, wantA, initA, resA, Tr.get_set, vl, chkOk, cond_true, cond_false, Nat.add_zero, Nat.mul_one, Nat.one_mul, Nat.zero_add, Nat.zero_mul, aggOf, pInt, binA, unA, intA, beq_true, beq_false, Bool.not_true, Bool.not_false, Bool.not_eq_true, and_self, and_true, true_and, ↓reduceIte, reduceIte, Nat.reduceEqDiff, Nat.succ_ne_self, Nat.reduceAdd, Nat.reduceMul, Nat.reduceSub, Nat.reduceBEq, Nat.reduceLT, Nat.reduceLeDiff, Int.cast_ofNat_Int, Int.reduceToNat, Int.reduceLT, Int.reduceLE, Int.reduceGE, Int.reduceGT, Int.reduceEq, Int.reduceNe, Int.reduceAdd, Int.reduceSub, Int.reduceNeg, decide_true, decide_false, Int.toNat_natCast, reduceCtorEq, List.nil_append, List.cons_append, AV.boxy, AV.cells, List.length_cons, List.length_nil, Nat.beq_refl, AOp.cl, ↓OW_guard, ↓DW_guard, KDW_0, KDW_1, KDW_2, OWskip_eq, DWskip_eq, fillA, setAt, DChk, DAt, stepA, ble_dec, beq_dec, Bool.and_self, Bool.and_true, Bool.true_and, Bool.and_false, Bool.false_and, List.take_succ_cons, List.take_zero, List.drop_succ_cons, List.drop_zero, List.take_nil, List.drop_nil, List.append_nil, eqAV, eqAVL, BEq.rfl, eqA, eqD, sameS, Option.map, Option.isNone, addrA, wrap64, gt_iff_lt, ge_iff_le, Int.lt_irrefl, Int.le_refl]
  · rintro v H' rfl
    simp -implicitDefEqProofs only [↓WP_seq, ↓WP_skip, ↓WP_region, ↓WP_dregion, ↓WP_cond, ↓WP_block, ↓WP_exit, ↓WP_ret, ↓OW_nil, ↓OW_cons, ↓DW_nil, ↓DW_cons, ↓XW_call, XW, exA, KO_eq, KD_eq, OptK_some, EvK_some, GW2_true, GW2_false, KS_normal, KS_ret, KS_exit, KB_normal, KB_ret, KB_exit, CP2_bool, RP_ret, RP_normal, putA_some, putA_none, ev_t, ev_c, evs, evo, wantA, initA, resA, Tr.get_set, vl, chkOk, cond_true, cond_false, Nat.add_zero, Nat.mul_one, Nat.one_mul, Nat.zero_add, Nat.zero_mul, aggOf, pInt, binA, unA, intA, beq_true, beq_false, Bool.not_true, Bool.not_false, Bool.not_eq_true, and_self, and_true, true_and, ↓reduceIte, reduceIte, Nat.reduceEqDiff, Nat.succ_ne_self, Nat.reduceAdd, Nat.reduceMul, Nat.reduceSub, Nat.reduceBEq, Nat.reduceLT, Nat.reduceLeDiff, Int.cast_ofNat_Int, Int.reduceToNat, Int.reduceLT, Int.reduceLE, Int.reduceGE, Int.reduceGT, Int.reduceEq, Int.reduceNe, Int.reduceAdd, Int.reduceSub, Int.reduceNeg, decide_true, decide_false, Int.toNat_natCast, reduceCtorEq, List.nil_append, List.cons_append, AV.boxy, AV.cells, List.length_cons, List.length_nil, Nat.beq_refl, AOp.cl, ↓OW_guard, ↓DW_guard, KDW_0, KDW_1, KDW_2, OWskip_eq, DWskip_eq, fillA, setAt, DChk, DAt, stepA, ble_dec, beq_dec, Bool.and_self, Bool.and_true, Bool.true_and, Bool.and_false, Bool.false_and, List.take_succ_cons, List.take_zero, List.drop_succ_cons, List.drop_zero, List.take_nil, List.drop_nil, List.append_nil, eqAV, eqAVL, BEq.rfl, eqA, eqD, sameS, Option.map, Option.isNone, addrA, wrap64, gt_iff_lt, ge_iff_le, Int.lt_irrefl, Int.le_refl]
end Go.Proofs.Ytldlolpbnfgdeaa.AA
namespace Go.Proofs.Ytldlolpbnfgdeaa.AA
open Go Go.RowKit
set_option maxRecDepth 100000
set_option maxHeartbeats 1000000
section
variable {H : AHeap} {b n : Nat} {f : Nat → AV} {D : Nat → Prop} {g : Nat → SV} {s : QS}
/-- One more element, from a fresh row. -/
theorem Sl.push1 {H : AHeap} {D : Nat → Prop} {s n bytes : Nat} {v : AV} {cs ys : List AV} (h : Sl H D s v n cs) (hys : ys.length = s) (hb : (n + 1) * bytes ≤ 140737488355328) (hm : n + 1 ≤ 140737488355328) :
    ∃ H2, appendF (H.newRow ys) s bytes false v (.slice (some (H.next, 0)) s 1 true) = some (.slice (some (H.next + 1, 0)) s (n + 1) false, H2) ∧ H2.next = H.next + 2 ∧ Chg H H2 (ub v) ∧ Sl H2 (fun y => y = H.next + 1) s (.slice (some (H.next + 1, 0)) s (n + 1) false) (n + 1) (cs ++ ys) := by
  have c1 := Chg.newRow H ys
  have hs1 : Sl (H.newRow ys) D s v n cs := Sl.keep h c1.1 fun x hx hl => c1.keep hl (by simp)
  have hsrc : srcA (H.newRow ys) s false (.slice (some (H.next, 0)) s 1 true) = some (ys, 1) := srcA_slice (Rd.newRow H ys) (by rw [hys, Nat.one_mul])
  obtain ⟨H2, e1, e2, e3, e4⟩ := hs1.append (bytes := bytes) hsrc (by rw [hys, Nat.one_mul]) (by omega) hb hm
  exact ⟨H2, e1, e2, c1.trans e3, e4⟩
/-- A slice that grows: nothing yet, or a row of its own, grown out of P's. -/
def Gw (H : AHeap) (s : Nat) (v : AV) (n : Nat) (cs : List AV) (P : Nat → Prop) : Prop := cs.length = n * s ∧
  ((∃ s0, v = .slice none s0 0 true ∧ n = 0) ∨ ∃ x, v = .slice (some (x, 0)) s n false ∧ P x ∧ Arr H x cs fun z => P z ∧ z ≠ x)
theorem Gw.sl {H : AHeap} {s n : Nat} {v : AV} {cs : List AV} {P : Nat → Prop} (h : Gw H s v n cs P) : Sl H (fun y => ub v = some y) s v n cs := by
  obtain ⟨hl, ⟨s0, rfl, rfl⟩ | ⟨x, rfl, hp, ha⟩⟩ := h
  · exact .inl ⟨⟨s0, rfl⟩, by simpa using hl, rfl⟩
  · refine .inr ⟨x, 0, false, rfl, rfl, hl, ha.rd, fun _ => ⟨rfl, ?_⟩⟩
    obtain ⟨hx, c, par, hc, hf, hp⟩ := ha
    exact ⟨c, par, hc⟩
theorem Gw.ubP {H : AHeap} {s n : Nat} {v : AV} {cs : List AV} {P : Nat → Prop} (h : Gw H s v n cs P) {y : Nat} (hy : ub v = some y) : P y := by
  obtain ⟨hl, ⟨s0, rfl, rfl⟩ | ⟨x, rfl, hp, ha⟩⟩ := h
  · cases hy
  · obtain rfl : x = y := Option.some.inj hy
    exact hp
theorem Gw.keep {H H' : AHeap} {s n : Nat} {v : AV} {cs : List AV} {P : Nat → Prop} (h : Gw H s v n cs P) (hl : H.next ≤ H'.next) (hg : ∀ y, ub v = some y → H'.get y = H.get y) : Gw H' s v n cs P := by
  obtain ⟨hl', ⟨s0, rfl, rfl⟩ | ⟨x, rfl, hp, ha⟩⟩ := h
  · exact ⟨hl', .inl ⟨s0, rfl, rfl⟩⟩
  · exact ⟨hl', .inr ⟨x, rfl, hp, ha.keep hl (hg x rfl)⟩⟩
theorem Gw.mono {H : AHeap} {s n : Nat} {v : AV} {cs : List AV} {P P' : Nat → Prop} (h : Gw H s v n cs P) (hp' : ∀ y, P y → P' y) : Gw H s v n cs P' := by
  obtain ⟨hl', ⟨s0, rfl, rfl⟩ | ⟨x, rfl, hp, hx, c, par, hc, hf, hpar⟩⟩ := h
  · exact ⟨hl', .inl ⟨s0, rfl, rfl⟩⟩
  · exact ⟨hl', .inr ⟨x, rfl, hp' x hp, hx, c, par, hc, hf, fun z hz => ⟨hp' z (hpar z hz).1, (hpar z hz).2⟩⟩⟩
theorem Gw.push {H : AHeap} {s n bytes : Nat} {v : AV} {cs ys : List AV} {P : Nat → Prop} (h : Gw H s v n cs P) (hP : ∀ z, P z → z < H.next) (hys : ys.length = s) (hb : (n + 1) * bytes ≤ 140737488355328) (hm : n + 1 ≤ 140737488355328) :
    ∃ H2, appendF (H.newRow ys) s bytes false v (.slice (some (H.next, 0)) s 1 true) = some (.slice (some (H.next + 1, 0)) s (n + 1) false, H2) ∧ H2.next = H.next + 2 ∧ Chg H H2 (ub v) ∧ Gw H2 s (.slice (some (H.next + 1, 0)) s (n + 1) false) (n + 1) (cs ++ ys) fun z => P z ∨ z = H.next + 1 := by
  have hlen : (cs ++ ys).length = (n + 1) * s := by rw [List.length_append, h.1, hys, Nat.add_mul, Nat.one_mul]
  obtain ⟨H2, e1, e2, e3, e4⟩ := h.sl.push1 (bytes := bytes) hys hb hm
  refine ⟨H2, e1, e2, e3, hlen, .inr ⟨H.next + 1, rfl, .inr rfl, ?_⟩⟩
  have hc1 := Chg.newRow H ys
  have hsrc : srcA (H.newRow ys) s false (.slice (some (H.next, 0)) s 1 true) = some (ys, 1) := srcA_slice (Rd.newRow H ys) (by rw [hys, Nat.one_mul])
  have hm0 : Nat.beq 1 0 = false := rfl
  have hbb : (((n + 1) * bytes).ble 140737488355328 && (n + 1).ble 140737488355328) = true := by rw [Nat.ble_eq_true_of_le hb, Nat.ble_eq_true_of_le hm]; rfl
  have fresh : ∀ cs' : List AV, ∃ c par, ((H.newRow ys).newRow cs').get (H.next + 1) = .cells c cs'.length true par ∧ (∀ j v, cs'[j]? = some v → c.get j = some v) ∧ ∀ z, z ∈ par → (P z ∨ z = H.next + 1) ∧ z ≠ H.next + 1 := by
    intro cs'
    refine ⟨ofL cs' 0 .nil, [], by rw [AHeap.newRow, get_new, if_pos (by rfl)], fun j v hj => ?_, by simp⟩
    have := (List.getElem?_eq_some_iff.1 hj).1
    rw [get_ofL, if_pos (by omega)]
    simpa using hj
  refine ⟨by omega, ?_⟩
  obtain ⟨hl', ⟨s0, rfl, rfl⟩ | ⟨x, rfl, hp, hx, c, par, hc, hf, hpar⟩⟩ := h
  · obtain rfl : cs = [] := by simpa using hl'
    unfold appendF appendA at e1
    simp only [Nat.zero_add] at hbb
    simp only [hsrc, hm0, hbb, cond_true, cond_false] at e1
    obtain ⟨-, rfl⟩ := Prod.mk.inj (Option.some.inj e1)
    exact fresh ys
  · have hxx : (H.newRow ys).get x = .cells c cs.length true par := by rw [get_newRow hx]; exact hc
    have hbl : (n * s).beq cs.length = true := nbt' hl'.symm
    unfold appendF at e1
    simp only [hxx, hbl, Nat.beq_refl, Bool.and_self, cond_true, hsrc, hm0, cond_false, hbb] at e1
    obtain ⟨-, rfl⟩ := Prod.mk.inj (Option.some.inj e1)
    refine ⟨ofL ys cs.length c, x :: par, ?_, fun j v hj => ?_, fun z hz => ?_⟩
    · rw [get_new, if_pos (by rfl), List.length_append]
    · have hjl := (List.getElem?_eq_some_iff.1 hj).1
      rw [List.length_append] at hjl
      rw [get_ofL]
      by_cases h1 : j < cs.length
      · rw [if_neg (by omega)]
        rw [List.getElem?_append_left h1] at hj
        exact hf j v hj
      · rw [if_pos (by omega)]
        rwa [List.getElem?_append_right (by omega)] at hj
    · have : P z := by
        rcases List.mem_cons.1 hz with rfl | hz
        · exact hp
        · exact (hpar z hz).1
      have := hP z this
      exact ⟨.inl ‹_›, by omega⟩
/-- A fresh row, written. -/
theorem store_new (H : AHeap) (zs vs : List AV) (hl : vs.length = zs.length) : ∃ H2, storeA (H.newRow zs) H.next 0 vs = some H2 ∧ H2.next = H.next + 1 ∧ Chg H H2 none ∧ Rd H2 H.next 0 vs := by
  have hg : (H.newRow zs).get H.next = .cells (ofL zs 0 .nil) zs.length true [] := by rw [AHeap.newRow, get_new, if_pos rfl]
  refine ⟨(H.newRow zs).put H.next (.cells (ofL vs 0 (ofL zs 0 .nil)) zs.length true []), ?_, rfl, ⟨by simp [AHeap.newRow, next_new, next_put], fun x hx => ?_⟩, ?_⟩
  · unfold storeA
    rw [hg]
    have : (0 + vs.length).ble zs.length = true := Nat.ble_eq_true_of_le (by omega)
    simp only [this, cond_true, killAll]
  · have e : ((H.newRow zs).put H.next (.cells (ofL vs 0 (ofL zs 0 .nil)) zs.length true [])).get x = H.get x := by
      rw [get_put, if_neg (by omega), get_newRow hx]
    exact ⟨.inl e, fun _ => e⟩
  · refine ⟨by simp [AHeap.newRow, next_new, next_put], _, zs.length, true, [], by rw [get_put, if_pos rfl], by omega, fun j v hj => ?_⟩
    have := (List.getElem?_eq_some_iff.1 hj).1
    rw [get_ofL, if_pos (by omega)]
    simpa using hj
theorem Chg.weak {H1 H2 : AHeap} {u : Option Nat} (h : Chg H H1 none) (h' : Chg H1 H2 u) (hu : ∀ x, u = some x → H.next ≤ x) : Chg H H2 none := by
  refine ⟨Nat.le_trans h.1 h'.1, fun x hx => ?_⟩
  have e := (h.2 x hx).2 (by simp)
  have e' := (h'.2 x (Nat.lt_of_lt_of_le hx h.1)).2 (fun e => by have := hu x e; omega)
  exact ⟨.inl (by rw [e', e]), fun _ => by rw [e', e]⟩
theorem split_at {α : Type} {l : List α} {i : Nat} (h : i < l.length) : ∃ l1 x l2, l = l1 ++ x :: l2 ∧ l1.length = i ∧ l.take i = l1 ∧ l.take (i + 1) = l1 ++ [x] := by
  refine ⟨l.take i, l[i], l.drop (i + 1), by simp, by simp; omega, rfl, ?_⟩
  rw [List.take_add_one, List.getElem?_eq_getElem h]; rfl
end
end Go.Proofs.Ytldlolpbnfgdeaa.AA
namespace Go.Proofs.Ytldlolpbnfgdeaa.AA
open Go Go.RowKit
set_option maxRecDepth 100000
attribute [local irreducible] Tr.set
set_option maxHeartbeats 1000000
def due (now : Int) (x : Nat × Int) : Bool := decide (x.2 ≤ now)
def pss (s : QS) (l : List Nat) : QS := l.foldl ps s
def wkd (s : QS) (now : Int) : List (Nat × Int) := isort (s.s.filter (due now))
def wkr (s : QS) (now : Int) : List (Nat × Int) := s.s.filter fun x => !due now x
def vWake (s : QS) (now : Int) : List Nat := (wkd s now).map (·.1)
def mWake (s : QS) (now : Int) : QS := pss (s.sets (wkr s now)) (vWake s now)
section
variable {H : AHeap} {b n : Nat} {f : Nat → AV} {D : Nat → Prop} {g : Nat → SV} {s : QS}
def I1 (H : AHeap) (s : QS) (b : Nat) (now : Int) (v : AV) (i : Nat) (fr : AFr) (H' : AHeap) : Prop :=
  fr.get 0 = some (.ptr (some (b, 0))) ∧ fr.get 1 = some (.int .i64 now) ∧ fr.get 15 = some v ∧ fr.get 16 = some (.int .i64 s.s.length) ∧ fr.get 17 = some (.int .i64 i) ∧ Chg H H' none ∧
    ∃ v5 v6 P5 P6, fr.get 5 = some v5 ∧ fr.get 6 = some v6 ∧ Gw H' 2 v5 ((s.s.take i).filter (due now)).length (slp ((s.s.take i).filter (due now))) P5 ∧
      Gw H' 2 v6 ((s.s.take i).filter (fun x => !due now x)).length (slp ((s.s.take i).filter (fun x => !due now x))) P6 ∧
      (∀ z, P5 z → H.next ≤ z ∧ z < H'.next ∧ ¬ P6 z) ∧ ∀ z, P6 z → H.next ≤ z ∧ z < H'.next
def I1E (H : AHeap) (s : QS) (b : Nat) (now : Int) (ex : AEx) (fr : AFr) (H' : AHeap) : Prop := ex = .exit 0 ∧
  fr.get 0 = some (.ptr (some (b, 0))) ∧ Chg H H' none ∧
    ∃ v5 v6 P5 P6, fr.get 5 = some v5 ∧ fr.get 6 = some v6 ∧ Gw H' 2 v5 (s.s.filter (due now)).length (slp (s.s.filter (due now))) P5 ∧
      Gw H' 2 v6 (wkr s now).length (slp (wkr s now)) P6 ∧
      (∀ z, P5 z → H.next ≤ z ∧ z < H'.next ∧ ¬ P6 z) ∧ ∀ z, P6 z → H.next ≤ z ∧ z < H'.next
theorem c_SortG {v : AV} {m : Nat} {l : List (Nat × Int)} {P : Nat → Prop} (h : Gw H 2 v m (slp l) P) (h6 : l.length ≤ 6) : CW M0 76 [v, .func (.func 77) [] []] H fun _ H' => H.next ≤ H'.next ∧ Gw H' 2 v m (slp (isort l)) P ∧ ∀ y, y < H.next → ¬ P y → H'.get y = H.get y := by
  obtain ⟨hl, ⟨s0, rfl, rfl⟩ | ⟨x, rfl, hp, ha⟩⟩ := h
  · rw [slp_len] at hl
    obtain rfl : l = [] := by cases l; rfl; simp at hl
    refine CW.mono c_SortNil ?_
    rintro v H' rfl
    exact ⟨Nat.le_refl _, ⟨rfl, .inl ⟨s0, rfl, rfl⟩⟩, fun _ _ _ => rfl⟩
  · rw [slp_len] at hl
    obtain rfl : l.length = m := by omega
    refine CW.mono (c_SortS ha rfl h6 fun z hz => hz.2) ?_
    rintro v H' ⟨h1, h2, h3⟩
    exact ⟨h1, ⟨by rw [slp_len, isort_len], .inr ⟨x, rfl, hp, h2⟩⟩, fun y hy hpy => h3 y hy (fun e => hpy (e ▸ hp)) fun e => hpy e.1⟩
theorem c_Clip {v : AV} {m : Nat} {cs : List AV} {P : Nat → Prop} (h : Gw H 1 v m cs P) (hm : m < 1000) : CW M0 55 [v] H fun v' H' => H' = H ∧ Sl H P 1 v' m cs ∧ ub v' = none := by
  refine CW_of (fn := af55) rfl ?_
  obtain ⟨hl, ⟨s0, rfl, rfl⟩ | ⟨x, rfl, hp, ha⟩⟩ := h
  · obtain rfl : cs = [] := by simpa using hl
    unfold af55
    simp -implicitDefEqProofs only [slA, boundA, Option.isSome, Option.isNone, Nat.sub_zero, ub, ↓WP_seq, ↓WP_skip, ↓WP_region, ↓WP_dregion, ↓WP_cond, ↓WP_block, ↓WP_exit, ↓WP_ret, ↓OW_nil, ↓OW_cons, ↓DW_nil, ↓DW_cons, ↓XW_call, XW, exA, KO_eq, KD_eq, OptK_some, EvK_some, GW2_true, GW2_false, KS_normal, KS_ret, KS_exit, KB_normal, KB_ret, KB_exit, CP2_bool, RP_ret, RP_normal, putA_some, putA_none, ev_t, ev_c, evs, evo, wantA, initA, resA, Tr.get_set, vl, chkOk, cond_true, cond_false, Nat.add_zero, Nat.mul_one, Nat.one_mul, Nat.zero_add, Nat.zero_mul, aggOf, pInt, binA, unA, intA, beq_true, beq_false, Bool.not_true, Bool.not_false, Bool.not_eq_true, and_self, and_true, true_and, ↓reduceIte, reduceIte, Nat.reduceEqDiff, Nat.succ_ne_self, Nat.reduceAdd, Nat.reduceMul, Nat.reduceSub, Nat.reduceBEq, Nat.reduceLT, Nat.reduceLeDiff, Int.cast_ofNat_Int, Int.reduceToNat, Int.reduceLT, Int.reduceLE, Int.reduceGE, Int.reduceGT, Int.reduceEq, Int.reduceNe, Int.reduceAdd, Int.reduceSub, Int.reduceNeg, decide_true, decide_false, Int.toNat_natCast, reduceCtorEq, List.nil_append, List.cons_append, AV.boxy, AV.cells, List.length_cons, List.length_nil, Nat.beq_refl, AOp.cl, ↓OW_guard, ↓DW_guard, KDW_0, KDW_1, KDW_2, OWskip_eq, DWskip_eq, fillA, setAt, DChk, DAt, stepA, ble_dec, beq_dec, Bool.and_self, Bool.and_true, Bool.true_and, Bool.and_false, Bool.false_and, List.take_succ_cons, List.take_zero, List.drop_succ_cons, List.drop_zero, List.take_nil, List.drop_nil, List.append_nil, eqAV, eqAVL, BEq.rfl, eqA, eqD, sameS, Option.map, Option.isNone, addrA, wrap64, gt_iff_lt, ge_iff_le, Int.lt_irrefl, Int.le_refl]
    exact .inl ⟨⟨_, rfl⟩, rfl, rfl⟩
  · have h0 : ((0 : Int) ≤ (m : Int)) = True := by simp
    unfold af55
    simp -implicitDefEqProofs only [slA, boundA, h0, Option.isSome, Option.isNone, Nat.sub_zero, ub, ↓WP_seq, ↓WP_skip, ↓WP_region, ↓WP_dregion, ↓WP_cond, ↓WP_block, ↓WP_exit, ↓WP_ret, ↓OW_nil, ↓OW_cons, ↓DW_nil, ↓DW_cons, ↓XW_call, XW, exA, KO_eq, KD_eq, OptK_some, EvK_some, GW2_true, GW2_false, KS_normal, KS_ret, KS_exit, KB_normal, KB_ret, KB_exit, CP2_bool, RP_ret, RP_normal, putA_some, putA_none, ev_t, ev_c, evs, evo, wantA, initA, resA, Tr.get_set, vl, chkOk, cond_true, cond_false, Nat.add_zero, Nat.mul_one, Nat.one_mul, Nat.zero_add, Nat.zero_mul, aggOf, pInt, binA, unA, intA, beq_true, beq_false, Bool.not_true, Bool.not_false, Bool.not_eq_true, and_self, and_true, true_and, ↓reduceIte, reduceIte, Nat.reduceEqDiff, Nat.succ_ne_self, Nat.reduceAdd, Nat.reduceMul, Nat.reduceSub, Nat.reduceBEq, Nat.reduceLT, Nat.reduceLeDiff, Int.cast_ofNat_Int, Int.reduceToNat, Int.reduceLT, Int.reduceLE, Int.reduceGE, Int.reduceGT, Int.reduceEq, Int.reduceNe, Int.reduceAdd, Int.reduceSub, Int.reduceNeg, decide_true, decide_false, Int.toNat_natCast, reduceCtorEq, List.nil_append, List.cons_append, AV.boxy, AV.cells, List.length_cons, List.length_nil, Nat.beq_refl, AOp.cl, ↓OW_guard, ↓DW_guard, KDW_0, KDW_1, KDW_2, OWskip_eq, DWskip_eq, fillA, setAt, DChk, DAt, stepA, ble_dec, beq_dec, Bool.and_self, Bool.and_true, Bool.true_and, Bool.and_false, Bool.false_and, List.take_succ_cons, List.take_zero, List.drop_succ_cons, List.drop_zero, List.take_nil, List.drop_nil, List.append_nil, eqAV, eqAVL, BEq.rfl, eqA, eqD, sameS, Option.map, Option.isNone, addrA, wrap64, gt_iff_lt, ge_iff_le, Int.lt_irrefl, Int.le_refl]
    exact .inr ⟨x, 0, true, rfl, hp, hl, ha.rd, by simp⟩
theorem pss_lv (s : QS) (l : List Nat) : (pss s l).lv = s.lv := by
  unfold pss
  induction l generalizing s with
  | nil => rfl
  | cons x l ih => rw [List.foldl_cons, ih]; rfl
theorem pss_len (s : QS) (l : List Nat) (i : Nat) : ((pss s l).r i).length ≤ (s.r i).length + l.length := by
  unfold pss
  induction l generalizing s with
  | nil => simp
  | cons x l ih =>
    rw [List.foldl_cons]
    refine Nat.le_trans (ih _) ?_
    simp only [ps, QS.setr, upd]
    split
    · rename_i e; subst e; simp; omega
    · simp
theorem bub_mem {z : Nat × Int} : ∀ {r : List (Nat × Int)} {x : Nat × Int} {post : List (Nat × Int)}, z ∈ bub r x post → z ∈ r ∨ z = x ∨ z ∈ post
  | [], x, post, h => by simp [bub] at h; rcases h with h | h <;> simp [h]
  | y :: r, x, post, h => by
    unfold bub at h
    split at h
    · rcases bub_mem h with h | h | h
      · simp [h]
      · simp [h]
      · simp at h; rcases h with h | h <;> simp [h]
    · simp at h; rcases h with h | h | h | h <;> simp [h]
theorem isort_mem {z : Nat × Int} {l : List (Nat × Int)} (h : z ∈ isort l) : z ∈ l := by
  have key : ∀ (l S : List (Nat × Int)), z ∈ l.foldl (fun S x => bub S.reverse x []) S → z ∈ S ∨ z ∈ l := by
    intro l
    induction l with
    | nil => intro S h; exact .inl h
    | cons x l ih =>
      intro S h
      rcases ih _ h with h | h
      · rcases bub_mem h with h | h | h
        · simp at h; exact .inl h
        · simp [h]
        · cases h
      · simp [h]
  rcases key l [] h with h | h
  · cases h
  · exact h
def I2 (H : AHeap) (s s1 : QS) (b : Nat) (D : Nat → Prop) (d : List (Nat × Int)) (v5 : AV) (P5 : Nat → Prop) (i : Nat) (fr : AFr) (H' : AHeap) : Prop :=
  fr.get 0 = some (.ptr (some (b, 0))) ∧ fr.get 40 = some v5 ∧ fr.get 41 = some (.int .i64 d.length) ∧ fr.get 42 = some (.int .i64 i) ∧ Fp H H' b D ∧ Gw H' 2 v5 d.length (slp d) P5 ∧
    ∃ v9 P9 f' D', fr.get 9 = some v9 ∧ Gw H' 1 v9 i (nats ((d.take i).map (·.1))) P9 ∧ QC H' b 25 f' D' (gP (pss s1 ((d.take i).map (·.1)))) ∧
      (∀ z, D' z → (D z ∨ H.next ≤ z) ∧ ¬ P5 z ∧ ¬ P9 z) ∧ (∀ z, D z → D' z) ∧ (∀ z, P9 z → H.next ≤ z ∧ z < H'.next ∧ ¬ P5 z) ∧ ∀ z, P5 z → z < H'.next
theorem c_Wake (h : QC H b 25 f D (gP s)) (hi : Inv s) (now : Int) : CW M0 38 [.ptr (some (b, 0)), iv now] H fun v H' => (∃ P, (∀ y, P y → H.next ≤ y) ∧ Sl H' P 1 v (vWake s now).length (nats (vWake s now))) ∧ Go H H' b 25 D (gP (mWake s now)) := by
  refine CW_of (fn := af38) rfl ?_
  have hlen := hi.lens
  have l12 := h.load (i := 12) (by omega)
  have hs12 := h.sl (i := 12) (by omega) (g := gP s) (by rw [gP_C (by omega), gC_s])
  obtain ⟨a, s0, cl, f12⟩ := hs12.form
  unfold af38
  simp -implicitDefEqProofs only [iv, l12, f12, ↓WP_seq, ↓WP_skip, ↓WP_region, ↓WP_dregion, ↓WP_cond, ↓WP_block, ↓WP_exit, ↓WP_ret, ↓OW_nil, ↓OW_cons, ↓DW_nil, ↓DW_cons, ↓XW_call, XW, exA, KO_eq, KD_eq, OptK_some, EvK_some, GW2_true, GW2_false, KS_normal, KS_ret, KS_exit, KB_normal, KB_ret, KB_exit, CP2_bool, RP_ret, RP_normal, putA_some, putA_none, ev_t, ev_c, evs, evo, wantA, initA, resA, Tr.get_set, vl, chkOk, cond_true, cond_false, Nat.add_zero, Nat.mul_one, Nat.one_mul, Nat.zero_add, Nat.zero_mul, aggOf, pInt, binA, unA, intA, beq_true, beq_false, Bool.not_true, Bool.not_false, Bool.not_eq_true, and_self, and_true, true_and, ↓reduceIte, reduceIte, Nat.reduceEqDiff, Nat.succ_ne_self, Nat.reduceAdd, Nat.reduceMul, Nat.reduceSub, Nat.reduceBEq, Nat.reduceLT, Nat.reduceLeDiff, Int.cast_ofNat_Int, Int.reduceToNat, Int.reduceLT, Int.reduceLE, Int.reduceGE, Int.reduceGT, Int.reduceEq, Int.reduceNe, Int.reduceAdd, Int.reduceSub, Int.reduceNeg, decide_true, decide_false, Int.toNat_natCast, reduceCtorEq, List.nil_append, List.cons_append, AV.boxy, AV.cells, List.length_cons, List.length_nil, Nat.beq_refl, AOp.cl, ↓OW_guard, ↓DW_guard, KDW_0, KDW_1, KDW_2, OWskip_eq, DWskip_eq, fillA, setAt, DChk, DAt, stepA, ble_dec, beq_dec, Bool.and_self, Bool.and_true, Bool.true_and, Bool.and_false, Bool.false_and, List.take_succ_cons, List.take_zero, List.drop_succ_cons, List.drop_zero, List.take_nil, List.drop_nil, List.append_nil, eqAV, eqAVL, BEq.rfl, eqA, eqD, sameS, Option.map, Option.isNone, addrA, wrap64, gt_iff_lt, ge_iff_le, Int.lt_irrefl, Int.le_refl]
  refine WP_mono (Q := I1E H s b now) ?_ ?_
  · rintro ex fr H1 ⟨rfl, g0, hch, v5, v6, P5, P6, g5, g6, w5, w6, d5, d6⟩
    simp -implicitDefEqProofs only [g0, g5, g6, ↓WP_seq, ↓WP_skip, ↓WP_region, ↓WP_dregion, ↓WP_cond, ↓WP_block, ↓WP_exit, ↓WP_ret, ↓OW_nil, ↓OW_cons, ↓DW_nil, ↓DW_cons, ↓XW_call, XW, exA, KO_eq, KD_eq, OptK_some, EvK_some, GW2_true, GW2_false, KS_normal, KS_ret, KS_exit, KB_normal, KB_ret, KB_exit, CP2_bool, RP_ret, RP_normal, putA_some, putA_none, ev_t, ev_c, evs, evo, wantA, initA, resA, Tr.get_set, vl, chkOk, cond_true, cond_false, Nat.add_zero, Nat.mul_one, Nat.one_mul, Nat.zero_add, Nat.zero_mul, aggOf, pInt, binA, unA, intA, beq_true, beq_false, Bool.not_true, Bool.not_false, Bool.not_eq_true, and_self, and_true, true_and, ↓reduceIte, reduceIte, Nat.reduceEqDiff, Nat.succ_ne_self, Nat.reduceAdd, Nat.reduceMul, Nat.reduceSub, Nat.reduceBEq, Nat.reduceLT, Nat.reduceLeDiff, Int.cast_ofNat_Int, Int.reduceToNat, Int.reduceLT, Int.reduceLE, Int.reduceGE, Int.reduceGT, Int.reduceEq, Int.reduceNe, Int.reduceAdd, Int.reduceSub, Int.reduceNeg, decide_true, decide_false, Int.toNat_natCast, reduceCtorEq, List.nil_append, List.cons_append, AV.boxy, AV.cells, List.length_cons, List.length_nil, Nat.beq_refl, AOp.cl, ↓OW_guard, ↓DW_guard, KDW_0, KDW_1, KDW_2, OWskip_eq, DWskip_eq, fillA, setAt, DChk, DAt, stepA, ble_dec, beq_dec, Bool.and_self, Bool.and_true, Bool.true_and, Bool.and_false, Bool.false_and, List.take_succ_cons, List.take_zero, List.drop_succ_cons, List.drop_zero, List.take_nil, List.drop_nil, List.append_nil, eqAV, eqAVL, BEq.rfl, eqA, eqD, sameS, Option.map, Option.isNone, addrA, wrap64, gt_iff_lt, ge_iff_le, Int.lt_irrefl, Int.le_refl]
    have hfl : (s.s.filter (due now)).length ≤ 6 := Nat.le_trans (List.length_filter_le ..) hlen
    refine CW.mono (c_SortG w5 hfl) ?_
    rintro - H2 ⟨hn2, w52, hfr2⟩
    have w62 : Gw H2 2 v6 _ _ P6 := w6.keep hn2 fun y hy => hfr2 y (d6 y (w6.ubP hy)).2 fun e => (d5 y e).2.2 (w6.ubP hy)
    have ch2 : Chg H H2 none := by
      refine ⟨Nat.le_trans hch.1 hn2, fun x hx => ?_⟩
      have e : H2.get x = H.get x := by rw [hfr2 x (by have := hch.1; omega) (fun e => by have := (d5 x e).1; omega), hch.keep hx (by simp)]
      exact ⟨.inl e, fun _ => e⟩
    obtain ⟨H3, st, n3, q3, fp3, fr3⟩ := h.store' (i := 12) (by omega) ch2 (.inl rfl) (D' := fun y => D y ∨ ub v6 = some y) (fun y hy => .inl hy) (fun y hy => by
      rcases hy with hy | hy
      · exact .inl hy
      · obtain ⟨q1, q2⟩ := d6 y (w6.ubP hy)
        exact .inr ⟨q1, by omega⟩) (x := .sl 2 (wkr s now).length (slp (wkr s now))) (v' := v6) (Sl.mono w62.sl fun y hy => .inr hy) (fun y hy => .inl (d6 y (w6.ubP hy)).1)
    rw [sets_P rfl rfl] at q3
    obtain ⟨a6, s6, cl6, e6⟩ := w62.sl.form
    obtain ⟨a5, s5, cl5, e5⟩ := w52.sl.form
    have hlen5 : (s.s.filter (due now)).length = (wkd s now).length := (isort_len _).symm
    rw [hlen5] at w52 e5
    have bx : v6.boxy = true ∧ v6.cells = [v6] := by rw [e6]; exact ⟨rfl, rfl⟩
    subst e6
    subst e5
    simp -implicitDefEqProofs only [g0, g5, g6, st, ↓WP_seq, ↓WP_skip, ↓WP_region, ↓WP_dregion, ↓WP_cond, ↓WP_block, ↓WP_exit, ↓WP_ret, ↓OW_nil, ↓OW_cons, ↓DW_nil, ↓DW_cons, ↓XW_call, XW, exA, KO_eq, KD_eq, OptK_some, EvK_some, GW2_true, GW2_false, KS_normal, KS_ret, KS_exit, KB_normal, KB_ret, KB_exit, CP2_bool, RP_ret, RP_normal, putA_some, putA_none, ev_t, ev_c, evs, evo, wantA, initA, resA, Tr.get_set, vl, chkOk, cond_true, cond_false, Nat.add_zero, Nat.mul_one, Nat.one_mul, Nat.zero_add, Nat.zero_mul, aggOf, pInt, binA, unA, intA, beq_true, beq_false, Bool.not_true, Bool.not_false, Bool.not_eq_true, and_self, and_true, true_and, ↓reduceIte, reduceIte, Nat.reduceEqDiff, Nat.succ_ne_self, Nat.reduceAdd, Nat.reduceMul, Nat.reduceSub, Nat.reduceBEq, Nat.reduceLT, Nat.reduceLeDiff, Int.cast_ofNat_Int, Int.reduceToNat, Int.reduceLT, Int.reduceLE, Int.reduceGE, Int.reduceGT, Int.reduceEq, Int.reduceNe, Int.reduceAdd, Int.reduceSub, Int.reduceNeg, decide_true, decide_false, Int.toNat_natCast, reduceCtorEq, List.nil_append, List.cons_append, AV.boxy, AV.cells, List.length_cons, List.length_nil, Nat.beq_refl, AOp.cl, ↓OW_guard, ↓DW_guard, KDW_0, KDW_1, KDW_2, OWskip_eq, DWskip_eq, fillA, setAt, DChk, DAt, stepA, ble_dec, beq_dec, Bool.and_self, Bool.and_true, Bool.true_and, Bool.and_false, Bool.false_and, List.take_succ_cons, List.take_zero, List.drop_succ_cons, List.drop_zero, List.take_nil, List.drop_nil, List.append_nil, eqAV, eqAVL, BEq.rfl, eqA, eqD, sameS, Option.map, Option.isNone, addrA, wrap64, gt_iff_lt, ge_iff_le, Int.lt_irrefl, Int.le_refl]
    have hbH := h.blk.1
    have w53 : Gw H3 2 _ _ _ P5 := w52.keep (by omega) fun y hy => fr3 y (by have := (d5 y (w52.ubP hy)).1; omega)
    have hdl : (wkd s now).length ≤ 6 := by rw [← hlen5]; exact hfl
    refine WP_loop (fun n fr H' => ∃ i, n + i = (wkd s now).length ∧ I2 H s (s.sets (wkr s now)) b D (wkd s now) (.slice a5 s5 (wkd s now).length cl5) P5 i fr H') (wkd s now).length ?_ ?_
    · refine ⟨0, rfl, ?_⟩
      unfold I2
      simp -implicitDefEqProofs only [g0, g5, ↓WP_seq, ↓WP_skip, ↓WP_region, ↓WP_dregion, ↓WP_cond, ↓WP_block, ↓WP_exit, ↓WP_ret, ↓OW_nil, ↓OW_cons, ↓DW_nil, ↓DW_cons, ↓XW_call, XW, exA, KO_eq, KD_eq, OptK_some, EvK_some, GW2_true, GW2_false, KS_normal, KS_ret, KS_exit, KB_normal, KB_ret, KB_exit, CP2_bool, RP_ret, RP_normal, putA_some, putA_none, ev_t, ev_c, evs, evo, wantA, initA, resA, Tr.get_set, vl, chkOk, cond_true, cond_false, Nat.add_zero, Nat.mul_one, Nat.one_mul, Nat.zero_add, Nat.zero_mul, aggOf, pInt, binA, unA, intA, beq_true, beq_false, Bool.not_true, Bool.not_false, Bool.not_eq_true, and_self, and_true, true_and, ↓reduceIte, reduceIte, Nat.reduceEqDiff, Nat.succ_ne_self, Nat.reduceAdd, Nat.reduceMul, Nat.reduceSub, Nat.reduceBEq, Nat.reduceLT, Nat.reduceLeDiff, Int.cast_ofNat_Int, Int.reduceToNat, Int.reduceLT, Int.reduceLE, Int.reduceGE, Int.reduceGT, Int.reduceEq, Int.reduceNe, Int.reduceAdd, Int.reduceSub, Int.reduceNeg, decide_true, decide_false, Int.toNat_natCast, reduceCtorEq, List.nil_append, List.cons_append, AV.boxy, AV.cells, List.length_cons, List.length_nil, Nat.beq_refl, AOp.cl, ↓OW_guard, ↓DW_guard, KDW_0, KDW_1, KDW_2, OWskip_eq, DWskip_eq, fillA, setAt, DChk, DAt, stepA, ble_dec, beq_dec, Bool.and_self, Bool.and_true, Bool.true_and, Bool.and_false, Bool.false_and, List.take_succ_cons, List.take_zero, List.drop_succ_cons, List.drop_zero, List.take_nil, List.drop_nil, List.append_nil, eqAV, eqAVL, BEq.rfl, eqA, eqD, sameS, Option.map, Option.isNone, addrA, wrap64, gt_iff_lt, ge_iff_le, Int.lt_irrefl, Int.le_refl]
      refine ⟨fp3, w53, _, fun _ => False, _, _, rfl, ⟨rfl, .inl ⟨1, rfl, rfl⟩⟩, q3, ?_, fun z hz => .inl hz, by simp, ?_⟩
      · rintro z (hz | hz)
        · exact ⟨.inl hz, fun e => by have := (d5 z e).1; have := h.dn z hz; omega, by simp⟩
        · have hp6 := w62.ubP hz
          exact ⟨.inr (d6 z hp6).1, fun e => (d5 z e).2.2 hp6, by simp⟩
      · intro z hz
        have := (d5 z hz).2.1
        omega
    · rintro n fr H4 ⟨i, hni, g0, g40, g41, g42, fp4, w54, v9, P9, f4, D4, g9, w9, q4, d4, dd4, d9, d54⟩
      by_cases hlt : i < (wkd s now).length
      · obtain ⟨l1, x, l2, hx, hl1, ht1, ht2⟩ := split_at hlt
        have hlt' : (i : Int) < ((wkd s now).length : Int) := by omega
        have hi0 : (0 : Int) ≤ i := by omega
        obtain ⟨hl54, ⟨s0', e1, e2⟩ | ⟨x5, e1, hx5, ha5⟩⟩ := w54
        · omega
        injection e1 with ea es0 _ ecl
        subst ea; subst es0; subst ecl
        have ld : loadA H4 x5 (i * 2) 2 = some [.int .i64 x.1, .int .i64 x.2] := by
          have := (ha5.rd.congr (congrArg slp hx)).two hl1
          rwa [Nat.zero_add] at this
        obtain ⟨H5, st5, n5, ch5, r5⟩ := store_new H4 [.int .i64 0, .int .i64 0] [.int .i64 x.1, .int .i64 x.2] rfl
        have ld5 := r5.one (j := 0) (v := .int .i64 x.1) rfl
        rw [Nat.zero_add] at ld5
        have hb4 := q4.blk.1
        have q5 : QC H5 b 25 f4 D4 _ := q4.step ch5.1 (ch5.keep hb4 (by simp)) fun z hz => ch5.keep (q4.dn z hz) (by simp)
        have hmx : x ∈ s.s := by
          have : x ∈ wkd s now := by rw [hx]; simp
          exact (List.mem_filter.1 (isort_mem this)).1
        have hin := hi.mems hmx
        have hp6 := hi.inn _ hin
        have hlv4 := hi.lv4 x.1
        have hw : IntKind.i64.wrap ((i : Int) + 1) = ((i + 1 : Nat) : Int) := by rw [wrap64 (by omega) (by omega)]; omega
        simp -implicitDefEqProofs only [g0, g9, g40, g41, g42, hlt', hi0, ld, ld5, st5, ↓WP_seq, ↓WP_skip, ↓WP_region, ↓WP_dregion, ↓WP_cond, ↓WP_block, ↓WP_exit, ↓WP_ret, ↓OW_nil, ↓OW_cons, ↓DW_nil, ↓DW_cons, ↓XW_call, XW, exA, KO_eq, KD_eq, OptK_some, EvK_some, GW2_true, GW2_false, KS_normal, KS_ret, KS_exit, KB_normal, KB_ret, KB_exit, CP2_bool, RP_ret, RP_normal, putA_some, putA_none, ev_t, ev_c, evs, evo, wantA, initA, resA, Tr.get_set, vl, chkOk, cond_true, cond_false, Nat.add_zero, Nat.mul_one, Nat.one_mul, Nat.zero_add, Nat.zero_mul, aggOf, pInt, binA, unA, intA, beq_true, beq_false, Bool.not_true, Bool.not_false, Bool.not_eq_true, and_self, and_true, true_and, ↓reduceIte, reduceIte, Nat.reduceEqDiff, Nat.succ_ne_self, Nat.reduceAdd, Nat.reduceMul, Nat.reduceSub, Nat.reduceBEq, Nat.reduceLT, Nat.reduceLeDiff, Int.cast_ofNat_Int, Int.reduceToNat, Int.reduceLT, Int.reduceLE, Int.reduceGE, Int.reduceGT, Int.reduceEq, Int.reduceNe, Int.reduceAdd, Int.reduceSub, Int.reduceNeg, decide_true, decide_false, Int.toNat_natCast, reduceCtorEq, List.nil_append, List.cons_append, AV.boxy, AV.cells, List.length_cons, List.length_nil, Nat.beq_refl, AOp.cl, ↓OW_guard, ↓DW_guard, KDW_0, KDW_1, KDW_2, OWskip_eq, DWskip_eq, fillA, setAt, DChk, DAt, stepA, ble_dec, beq_dec, Bool.and_self, Bool.and_true, Bool.true_and, Bool.and_false, Bool.false_and, List.take_succ_cons, List.take_zero, List.drop_succ_cons, List.drop_zero, List.take_nil, List.drop_nil, List.append_nil, eqAV, eqAVL, BEq.rfl, eqA, eqD, sameS, Option.map, Option.isNone, addrA, wrap64, gt_iff_lt, ge_iff_le, Int.lt_irrefl, Int.le_refl]
        refine CW.mono (c_last' q5 (p := x.1) (l := s.lv x.1) hp6 (by rw [pss_lv]; rfl) hlv4 ?_) ?_
        · refine Nat.lt_of_le_of_lt (pss_len _ _ _) ?_
          have := hi.lenr (i := s.lv x.1) (by omega)
          have e : ((s.sets (wkr s now)).r (s.lv x.1)).length = (s.r (s.lv x.1)).length := rfl
          simp only [e, List.length_map, List.length_take]
          omega
        rintro - H6 ⟨⟨f6, q6⟩, fp6⟩
        have hnD : ∀ z, D4 z → z < H4.next := q4.dn
        have ld6 : loadA H6 H4.next 0 1 = some [.int .i64 x.1] := by
          have r6 : Rd H6 H4.next 0 [.int .i64 x.1, .int .i64 x.2] := r5.keep fp6.1 (fp6.2 _ (by omega) (by omega) fun e => by have := hnD _ e; omega)
          have := r6.one (j := 0) (v := .int .i64 x.1) rfl
          rwa [Nat.zero_add] at this
        have hbx : ∀ z, z < H4.next → ¬ D4 z → z ≠ b → H6.get z = H4.get z := fun z hz hd hzb => by
          rw [fp6.2 z (by have := ch5.1; omega) hzb hd, ch5.keep hz (by simp)]
        have hn6 : H4.next ≤ H6.next := Nat.le_trans ch5.1 fp6.1
        have hu9 : ∀ y, ub v9 = some y → P9 y := fun y hy => w9.ubP hy
        have w96 : Gw H6 1 v9 _ _ P9 := w9.keep hn6 fun y hy => by
          have h9 := d9 y (hu9 y hy)
          exact hbx y h9.2.1 (fun e => (d4 y e).2.2 (hu9 y hy)) (by omega)
        obtain ⟨H7, ap, n7, ch7, w97⟩ := w96.push (bytes := 8) (fun z hz => by have := (d9 z hz).2.1; omega) (ys := [.int .i64 x.1]) rfl (by omega) (by omega)
        simp -implicitDefEqProofs only [g0, g9, g40, g41, g42, iv, ld6, ap, hw, ↓WP_seq, ↓WP_skip, ↓WP_region, ↓WP_dregion, ↓WP_cond, ↓WP_block, ↓WP_exit, ↓WP_ret, ↓OW_nil, ↓OW_cons, ↓DW_nil, ↓DW_cons, ↓XW_call, XW, exA, KO_eq, KD_eq, OptK_some, EvK_some, GW2_true, GW2_false, KS_normal, KS_ret, KS_exit, KB_normal, KB_ret, KB_exit, CP2_bool, RP_ret, RP_normal, putA_some, putA_none, ev_t, ev_c, evs, evo, wantA, initA, resA, Tr.get_set, vl, chkOk, cond_true, cond_false, Nat.add_zero, Nat.mul_one, Nat.one_mul, Nat.zero_add, Nat.zero_mul, aggOf, pInt, binA, unA, intA, beq_true, beq_false, Bool.not_true, Bool.not_false, Bool.not_eq_true, and_self, and_true, true_and, ↓reduceIte, reduceIte, Nat.reduceEqDiff, Nat.succ_ne_self, Nat.reduceAdd, Nat.reduceMul, Nat.reduceSub, Nat.reduceBEq, Nat.reduceLT, Nat.reduceLeDiff, Int.cast_ofNat_Int, Int.reduceToNat, Int.reduceLT, Int.reduceLE, Int.reduceGE, Int.reduceGT, Int.reduceEq, Int.reduceNe, Int.reduceAdd, Int.reduceSub, Int.reduceNeg, decide_true, decide_false, Int.toNat_natCast, reduceCtorEq, List.nil_append, List.cons_append, AV.boxy, AV.cells, List.length_cons, List.length_nil, Nat.beq_refl, AOp.cl, ↓OW_guard, ↓DW_guard, KDW_0, KDW_1, KDW_2, OWskip_eq, DWskip_eq, fillA, setAt, DChk, DAt, stepA, ble_dec, beq_dec, Bool.and_self, Bool.and_true, Bool.true_and, Bool.and_false, Bool.false_and, List.take_succ_cons, List.take_zero, List.drop_succ_cons, List.drop_zero, List.take_nil, List.drop_nil, List.append_nil, eqAV, eqAVL, BEq.rfl, eqA, eqD, sameS, Option.map, Option.isNone, addrA, wrap64, gt_iff_lt, ge_iff_le, Int.lt_irrefl, Int.le_refl]
        refine ⟨n - 1, by omega, i + 1, by omega, ?_⟩
        unfold I2
        simp -implicitDefEqProofs only [g0, g9, g40, g41, g42, ↓WP_seq, ↓WP_skip, ↓WP_region, ↓WP_dregion, ↓WP_cond, ↓WP_block, ↓WP_exit, ↓WP_ret, ↓OW_nil, ↓OW_cons, ↓DW_nil, ↓DW_cons, ↓XW_call, XW, exA, KO_eq, KD_eq, OptK_some, EvK_some, GW2_true, GW2_false, KS_normal, KS_ret, KS_exit, KB_normal, KB_ret, KB_exit, CP2_bool, RP_ret, RP_normal, putA_some, putA_none, ev_t, ev_c, evs, evo, wantA, initA, resA, Tr.get_set, vl, chkOk, cond_true, cond_false, Nat.add_zero, Nat.mul_one, Nat.one_mul, Nat.zero_add, Nat.zero_mul, aggOf, pInt, binA, unA, intA, beq_true, beq_false, Bool.not_true, Bool.not_false, Bool.not_eq_true, and_self, and_true, true_and, ↓reduceIte, reduceIte, Nat.reduceEqDiff, Nat.succ_ne_self, Nat.reduceAdd, Nat.reduceMul, Nat.reduceSub, Nat.reduceBEq, Nat.reduceLT, Nat.reduceLeDiff, Int.cast_ofNat_Int, Int.reduceToNat, Int.reduceLT, Int.reduceLE, Int.reduceGE, Int.reduceGT, Int.reduceEq, Int.reduceNe, Int.reduceAdd, Int.reduceSub, Int.reduceNeg, decide_true, decide_false, Int.toNat_natCast, reduceCtorEq, List.nil_append, List.cons_append, AV.boxy, AV.cells, List.length_cons, List.length_nil, Nat.beq_refl, AOp.cl, ↓OW_guard, ↓DW_guard, KDW_0, KDW_1, KDW_2, OWskip_eq, DWskip_eq, fillA, setAt, DChk, DAt, stepA, ble_dec, beq_dec, Bool.and_self, Bool.and_true, Bool.true_and, Bool.and_false, Bool.false_and, List.take_succ_cons, List.take_zero, List.drop_succ_cons, List.drop_zero, List.take_nil, List.drop_nil, List.append_nil, eqAV, eqAVL, BEq.rfl, eqA, eqD, sameS, Option.map, Option.isNone, addrA, wrap64, gt_iff_lt, ge_iff_le, Int.lt_irrefl, Int.le_refl]
        have hl4 : H.next ≤ H4.next := fp4.1
        have hmap : ((wkd s now).take (i + 1)).map (·.1) = ((wkd s now).take i).map (·.1) ++ [x.1] := by rw [ht2, ht1, List.map_append]; rfl
        have hk7 : ∀ z, z < H6.next → ub v9 ≠ some z → H7.get z = H6.get z := fun z hz hne => ch7.keep hz hne
        refine ⟨⟨by omega, fun z hz hzb hzd => ?_⟩, ⟨hl54, .inr ⟨x5, rfl, hx5, ?_⟩⟩, _, fun z => P9 z ∨ z = H6.next + 1, f6, Ex D4 H5 H6, rfl, ?_, ?_, ?_, fun z hz => .inl (dd4 z hz), ?_, fun z hz => by have := d54 z hz; omega⟩
        · have h4 : ¬ D4 z := fun e => by
            rcases (d4 z e).1 with h' | h'
            · exact hzd h'
            · omega
          rw [hk7 z (by omega) (fun e => by have := (d9 z (hu9 z e)).1; omega), hbx z (by omega) h4 hzb, fp4.2 z hz hzb hzd]
        · have hx5n := d54 x5 hx5
          have hx5b : x5 ≠ b := fun e => by have := (d5 x5 hx5).1; omega
          refine ha5.keep (by omega) ?_
          rw [hk7 x5 (by omega) (fun e => (d9 x5 (hu9 x5 e)).2.2 hx5), hbx x5 hx5n (fun e => (d4 x5 e).2.1 hx5) hx5b]
        · rw [hmap]
          have : nats (List.map (·.1) ((wkd s now).take i) ++ [x.1]) = nats (List.map (·.1) ((wkd s now).take i)) ++ [.int .i64 x.1] := by simp [nats, iv]
          rw [this]
          exact w97
        · rw [hmap]
          have e : pss (s.sets (wkr s now)) (List.map (·.1) ((wkd s now).take i) ++ [x.1]) = ps (pss (s.sets (wkr s now)) (List.map (·.1) ((wkd s now).take i))) x.1 := by simp [pss]
          rw [e]
          refine q6.step (by omega) ?_ fun z hz => ?_
          · exact hk7 b q6.blk.1 fun e => by have := (d9 b (hu9 b e)).1; omega
          · refine hk7 z (q6.dn z hz) fun e => ?_
            rcases hz with hz | hz
            · exact (d4 z hz).2.2 (hu9 z e)
            · have := (d9 z (hu9 z e)).2.1; omega
        · intro z hz
          rcases hz with hz | hz
          · obtain ⟨q1', q2', q3'⟩ := d4 z hz
            refine ⟨q1', q2', ?_⟩
            rintro (e | e)
            · exact q3' e
            · have := hnD z hz; omega
          · refine ⟨.inr (by omega), fun e => by have := d54 z e; omega, ?_⟩
            rintro (e | e)
            · have := (d9 z e).2.1; omega
            · omega
        · rintro z (hz | rfl)
          · obtain ⟨q1', q2', q3'⟩ := d9 z hz
            exact ⟨q1', by omega, q3'⟩
          · exact ⟨by omega, by omega, fun e => by have := d54 _ e; omega⟩
      · have hlt' : ¬ (i : Int) < ((wkd s now).length : Int) := by omega
        have hile : i = (wkd s now).length := by omega
        have e1 : (wkd s now).take i = wkd s now := List.take_of_length_le (by omega)
        rw [e1] at w9 q4
        subst hile
        simp -implicitDefEqProofs only [g0, g9, g40, g41, g42, hlt', Bool.false_eq_true, ↓WP_seq, ↓WP_skip, ↓WP_region, ↓WP_dregion, ↓WP_cond, ↓WP_block, ↓WP_exit, ↓WP_ret, ↓OW_nil, ↓OW_cons, ↓DW_nil, ↓DW_cons, ↓XW_call, XW, exA, KO_eq, KD_eq, OptK_some, EvK_some, GW2_true, GW2_false, KS_normal, KS_ret, KS_exit, KB_normal, KB_ret, KB_exit, CP2_bool, RP_ret, RP_normal, putA_some, putA_none, ev_t, ev_c, evs, evo, wantA, initA, resA, Tr.get_set, vl, chkOk, cond_true, cond_false, Nat.add_zero, Nat.mul_one, Nat.one_mul, Nat.zero_add, Nat.zero_mul, aggOf, pInt, binA, unA, intA, beq_true, beq_false, Bool.not_true, Bool.not_false, Bool.not_eq_true, and_self, and_true, true_and, ↓reduceIte, reduceIte, Nat.reduceEqDiff, Nat.succ_ne_self, Nat.reduceAdd, Nat.reduceMul, Nat.reduceSub, Nat.reduceBEq, Nat.reduceLT, Nat.reduceLeDiff, Int.cast_ofNat_Int, Int.reduceToNat, Int.reduceLT, Int.reduceLE, Int.reduceGE, Int.reduceGT, Int.reduceEq, Int.reduceNe, Int.reduceAdd, Int.reduceSub, Int.reduceNeg, decide_true, decide_false, Int.toNat_natCast, reduceCtorEq, List.nil_append, List.cons_append, AV.boxy, AV.cells, List.length_cons, List.length_nil, Nat.beq_refl, AOp.cl, ↓OW_guard, ↓DW_guard, KDW_0, KDW_1, KDW_2, OWskip_eq, DWskip_eq, fillA, setAt, DChk, DAt, stepA, ble_dec, beq_dec, Bool.and_self, Bool.and_true, Bool.true_and, Bool.and_false, Bool.false_and, List.take_succ_cons, List.take_zero, List.drop_succ_cons, List.drop_zero, List.take_nil, List.drop_nil, List.append_nil, eqAV, eqAVL, BEq.rfl, eqA, eqD, sameS, Option.map, Option.isNone, addrA, wrap64, gt_iff_lt, ge_iff_le, Int.lt_irrefl, Int.le_refl]
        refine CW.mono (c_Clip w9 (by omega)) ?_
        rintro v' H5 ⟨rfl, hs9, hu9⟩
        simp -implicitDefEqProofs only [↓WP_seq, ↓WP_skip, ↓WP_region, ↓WP_dregion, ↓WP_cond, ↓WP_block, ↓WP_exit, ↓WP_ret, ↓OW_nil, ↓OW_cons, ↓DW_nil, ↓DW_cons, ↓XW_call, XW, exA, KO_eq, KD_eq, OptK_some, EvK_some, GW2_true, GW2_false, KS_normal, KS_ret, KS_exit, KB_normal, KB_ret, KB_exit, CP2_bool, RP_ret, RP_normal, putA_some, putA_none, ev_t, ev_c, evs, evo, wantA, initA, resA, Tr.get_set, vl, chkOk, cond_true, cond_false, Nat.add_zero, Nat.mul_one, Nat.one_mul, Nat.zero_add, Nat.zero_mul, aggOf, pInt, binA, unA, intA, beq_true, beq_false, Bool.not_true, Bool.not_false, Bool.not_eq_true, and_self, and_true, true_and, ↓reduceIte, reduceIte, Nat.reduceEqDiff, Nat.succ_ne_self, Nat.reduceAdd, Nat.reduceMul, Nat.reduceSub, Nat.reduceBEq, Nat.reduceLT, Nat.reduceLeDiff, Int.cast_ofNat_Int, Int.reduceToNat, Int.reduceLT, Int.reduceLE, Int.reduceGE, Int.reduceGT, Int.reduceEq, Int.reduceNe, Int.reduceAdd, Int.reduceSub, Int.reduceNeg, decide_true, decide_false, Int.toNat_natCast, reduceCtorEq, List.nil_append, List.cons_append, AV.boxy, AV.cells, List.length_cons, List.length_nil, Nat.beq_refl, AOp.cl, ↓OW_guard, ↓DW_guard, KDW_0, KDW_1, KDW_2, OWskip_eq, DWskip_eq, fillA, setAt, DChk, DAt, stepA, ble_dec, beq_dec, Bool.and_self, Bool.and_true, Bool.true_and, Bool.and_false, Bool.false_and, List.take_succ_cons, List.take_zero, List.drop_succ_cons, List.drop_zero, List.take_nil, List.drop_nil, List.append_nil, eqAV, eqAVL, BEq.rfl, eqA, eqD, sameS, Option.map, Option.isNone, addrA, wrap64, gt_iff_lt, ge_iff_le, Int.lt_irrefl, Int.le_refl]
        refine ⟨⟨P9, fun y hy => (d9 y hy).1, ?_⟩, ⟨⟨f4, ?_⟩, fp4⟩⟩
        · have : (vWake s now).length = (wkd s now).length := by simp [vWake]
          rw [this]
          exact hs9
        · refine q4.mono (fun z hz => ?_) ?_ ?_
          · rcases (d4 z hz).1 with h' | h'
            · exact .inl h'
            · exact .inr ⟨h', q4.dn z hz⟩
          · rintro (h' | h')
            · exact h.nb h'
            · omega
          · rintro z (h' | h')
            · exact q4.dn z (dd4 z h')
            · exact h'.2
  refine WP_loop (fun n fr H' => ∃ i, n + i = s.s.length ∧ I1 H s b now (.slice a s0 s.s.length cl) i fr H') s.s.length ?_ ?_
  · refine ⟨0, rfl, ?_⟩
    unfold I1
    simp -implicitDefEqProofs only [↓WP_seq, ↓WP_skip, ↓WP_region, ↓WP_dregion, ↓WP_cond, ↓WP_block, ↓WP_exit, ↓WP_ret, ↓OW_nil, ↓OW_cons, ↓DW_nil, ↓DW_cons, ↓XW_call, XW, exA, KO_eq, KD_eq, OptK_some, EvK_some, GW2_true, GW2_false, KS_normal, KS_ret, KS_exit, KB_normal, KB_ret, KB_exit, CP2_bool, RP_ret, RP_normal, putA_some, putA_none, ev_t, ev_c, evs, evo, wantA, initA, resA, Tr.get_set, vl, chkOk, cond_true, cond_false, Nat.add_zero, Nat.mul_one, Nat.one_mul, Nat.zero_add, Nat.zero_mul, aggOf, pInt, binA, unA, intA, beq_true, beq_false, Bool.not_true, Bool.not_false, Bool.not_eq_true, and_self, and_true, true_and, ↓reduceIte, reduceIte, Nat.reduceEqDiff, Nat.succ_ne_self, Nat.reduceAdd, Nat.reduceMul, Nat.reduceSub, Nat.reduceBEq, Nat.reduceLT, Nat.reduceLeDiff, Int.cast_ofNat_Int, Int.reduceToNat, Int.reduceLT, Int.reduceLE, Int.reduceGE, Int.reduceGT, Int.reduceEq, Int.reduceNe, Int.reduceAdd, Int.reduceSub, Int.reduceNeg, decide_true, decide_false, Int.toNat_natCast, reduceCtorEq, List.nil_append, List.cons_append, AV.boxy, AV.cells, List.length_cons, List.length_nil, Nat.beq_refl, AOp.cl, ↓OW_guard, ↓DW_guard, KDW_0, KDW_1, KDW_2, OWskip_eq, DWskip_eq, fillA, setAt, DChk, DAt, stepA, ble_dec, beq_dec, Bool.and_self, Bool.and_true, Bool.true_and, Bool.and_false, Bool.false_and, List.take_succ_cons, List.take_zero, List.drop_succ_cons, List.drop_zero, List.take_nil, List.drop_nil, List.append_nil, eqAV, eqAVL, BEq.rfl, eqA, eqD, sameS, Option.map, Option.isNone, addrA, wrap64, gt_iff_lt, ge_iff_le, Int.lt_irrefl, Int.le_refl]
    exact ⟨Chg.refl H, _, _, fun _ => False, fun _ => False, rfl, rfl, ⟨rfl, .inl ⟨1, rfl, rfl⟩⟩, ⟨rfl, .inl ⟨1, rfl, rfl⟩⟩, by simp, by simp⟩
  · rintro n fr H1 ⟨i, hni, g0, g1, g15, g16, g17, hch, v5, v6, P5, P6, g5, g6, w5, w6, d5, d6⟩
    by_cases hlt : i < s.s.length
    · obtain ⟨l1, x, l2, hx, hl1, ht1, ht2⟩ := split_at hlt
      have hlt' : (i : Int) < (s.s.length : Int) := by omega
      have hi0 : (0 : Int) ≤ i := by omega
      rcases hs12 with ⟨e1, e2, e3⟩ | ⟨y, o, cl', e1, e2, e3, e4, e5⟩
      · omega
      rw [f12] at e1
      injection e1 with ea es0 _ ecl
      subst ea; subst es0
      have e4' : Rd H1 y o (slp s.s) := e4.keep hch.1 (hch.keep e4.1 (by simp))
      have ld : loadA H1 y (o + i * 2) 2 = some [.int .i64 x.1, .int .i64 x.2] := (e4'.congr (congrArg slp hx)).two hl1
      obtain ⟨H2, st, n2, ch2, r2⟩ := store_new H1 [.int .i64 0, .int .i64 0] [.int .i64 x.1, .int .i64 x.2] rfl
      have ld2 := r2.load (n := 2) rfl
      have ld3 := r2.one (j := 1) (v := .int .i64 x.2) rfl
      have w52 : Gw H2 2 v5 _ _ P5 := w5.keep ch2.1 fun y hy => ch2.keep (d5 y (w5.ubP hy)).2.1 (by simp)
      have w62 : Gw H2 2 v6 _ _ P6 := w6.keep ch2.1 fun y hy => ch2.keep (d6 y (w6.ubP hy)).2 (by simp)
      have hw : IntKind.i64.wrap ((i : Int) + 1) = ((i + 1 : Nat) : Int) := by rw [wrap64 (by omega) (by omega)]; omega
      have hl5 : ((s.s.take i).filter (due now)).length ≤ 6 := Nat.le_trans (List.length_filter_le ..) (by simp; omega)
      have hl6 : ((s.s.take i).filter (fun x => !due now x)).length ≤ 6 := Nat.le_trans (List.length_filter_le ..) (by simp; omega)
      by_cases hdue : x.2 ≤ now
      · have hd1 : due now x = true := by simp [due, hdue]
        obtain ⟨H3, ap, n3, ch3, w53⟩ := w52.push (bytes := 16) (fun z hz => by have := (d5 z hz).2.1; omega) (ys := [.int .i64 x.1, .int .i64 x.2]) rfl (by omega) (by omega)
        have w63 : Gw H3 2 v6 _ _ P6 := w62.keep ch3.1 fun y hy => ch3.keep (by have := (d6 y (w6.ubP hy)).2; omega) (fun e => (d5 y (w5.ubP e)).2.2 (w6.ubP hy))
        rw [n2] at ap n3 w53
        simp -implicitDefEqProofs only [g0, g1, g5, g6, g15, g16, g17, hlt', hi0, ld, ld2, ld3, st, ap, hdue, hw, n2, ↓WP_seq, ↓WP_skip, ↓WP_region, ↓WP_dregion, ↓WP_cond, ↓WP_block, ↓WP_exit, ↓WP_ret, ↓OW_nil, ↓OW_cons, ↓DW_nil, ↓DW_cons, ↓XW_call, XW, exA, KO_eq, KD_eq, OptK_some, EvK_some, GW2_true, GW2_false, KS_normal, KS_ret, KS_exit, KB_normal, KB_ret, KB_exit, CP2_bool, RP_ret, RP_normal, putA_some, putA_none, ev_t, ev_c, evs, evo, wantA, initA, resA, Tr.get_set, vl, chkOk, cond_true, cond_false, Nat.add_zero, Nat.mul_one, Nat.one_mul, Nat.zero_add, Nat.zero_mul, aggOf, pInt, binA, unA, intA, beq_true, beq_false, Bool.not_true, Bool.not_false, Bool.not_eq_true, and_self, and_true, true_and, ↓reduceIte, reduceIte, Nat.reduceEqDiff, Nat.succ_ne_self, Nat.reduceAdd, Nat.reduceMul, Nat.reduceSub, Nat.reduceBEq, Nat.reduceLT, Nat.reduceLeDiff, Int.cast_ofNat_Int, Int.reduceToNat, Int.reduceLT, Int.reduceLE, Int.reduceGE, Int.reduceGT, Int.reduceEq, Int.reduceNe, Int.reduceAdd, Int.reduceSub, Int.reduceNeg, decide_true, decide_false, Int.toNat_natCast, reduceCtorEq, List.nil_append, List.cons_append, AV.boxy, AV.cells, List.length_cons, List.length_nil, Nat.beq_refl, AOp.cl, ↓OW_guard, ↓DW_guard, KDW_0, KDW_1, KDW_2, OWskip_eq, DWskip_eq, fillA, setAt, DChk, DAt, stepA, ble_dec, beq_dec, Bool.and_self, Bool.and_true, Bool.true_and, Bool.and_false, Bool.false_and, List.take_succ_cons, List.take_zero, List.drop_succ_cons, List.drop_zero, List.take_nil, List.drop_nil, List.append_nil, eqAV, eqAVL, BEq.rfl, eqA, eqD, sameS, Option.map, Option.isNone, addrA, wrap64, gt_iff_lt, ge_iff_le, Int.lt_irrefl, Int.le_refl]
        refine ⟨n - 1, by omega, i + 1, by omega, ?_⟩
        unfold I1
        simp -implicitDefEqProofs only [g0, g1, g5, g6, g15, g16, g17, ↓WP_seq, ↓WP_skip, ↓WP_region, ↓WP_dregion, ↓WP_cond, ↓WP_block, ↓WP_exit, ↓WP_ret, ↓OW_nil, ↓OW_cons, ↓DW_nil, ↓DW_cons, ↓XW_call, XW, exA, KO_eq, KD_eq, OptK_some, EvK_some, GW2_true, GW2_false, KS_normal, KS_ret, KS_exit, KB_normal, KB_ret, KB_exit, CP2_bool, RP_ret, RP_normal, putA_some, putA_none, ev_t, ev_c, evs, evo, wantA, initA, resA, Tr.get_set, vl, chkOk, cond_true, cond_false, Nat.add_zero, Nat.mul_one, Nat.one_mul, Nat.zero_add, Nat.zero_mul, aggOf, pInt, binA, unA, intA, beq_true, beq_false, Bool.not_true, Bool.not_false, Bool.not_eq_true, and_self, and_true, true_and, ↓reduceIte, reduceIte, Nat.reduceEqDiff, Nat.succ_ne_self, Nat.reduceAdd, Nat.reduceMul, Nat.reduceSub, Nat.reduceBEq, Nat.reduceLT, Nat.reduceLeDiff, Int.cast_ofNat_Int, Int.reduceToNat, Int.reduceLT, Int.reduceLE, Int.reduceGE, Int.reduceGT, Int.reduceEq, Int.reduceNe, Int.reduceAdd, Int.reduceSub, Int.reduceNeg, decide_true, decide_false, Int.toNat_natCast, reduceCtorEq, List.nil_append, List.cons_append, AV.boxy, AV.cells, List.length_cons, List.length_nil, Nat.beq_refl, AOp.cl, ↓OW_guard, ↓DW_guard, KDW_0, KDW_1, KDW_2, OWskip_eq, DWskip_eq, fillA, setAt, DChk, DAt, stepA, ble_dec, beq_dec, Bool.and_self, Bool.and_true, Bool.true_and, Bool.and_false, Bool.false_and, List.take_succ_cons, List.take_zero, List.drop_succ_cons, List.drop_zero, List.take_nil, List.drop_nil, List.append_nil, eqAV, eqAVL, BEq.rfl, eqA, eqD, sameS, Option.map, Option.isNone, addrA, wrap64, gt_iff_lt, ge_iff_le, Int.lt_irrefl, Int.le_refl]
        refine ⟨(hch.trans ch2).weak ch3 fun z hz => (d5 z (w5.ubP hz)).1, _, _, fun z => P5 z ∨ z = H1.next + 1 + 1, P6, rfl, rfl, ?_, ?_, ?_, ?_⟩
        · rw [ht2, ← ht1, List.filter_append]
          have : [x].filter (due now) = [x] := by simp [hd1]
          rw [this, slp_append, List.length_append]
          exact w53
        · rw [ht2, ← ht1, List.filter_append]
          have : [x].filter (fun x => !due now x) = [] := by simp [hd1]
          rw [this, List.append_nil]
          exact w63
        · rintro z (hz | rfl)
          · obtain ⟨q1, q2, q3⟩ := d5 z hz
            exact ⟨q1, by omega, q3⟩
          · have := hch.1
            exact ⟨by omega, by omega, fun hz => by have := (d6 _ hz).2; omega⟩
        · intro z hz
          obtain ⟨q1, q2⟩ := d6 z hz
          exact ⟨q1, by omega⟩
      · have hd1 : due now x = false := by simp [due, hdue]
        obtain ⟨H3, ap, n3, ch3, w63⟩ := w62.push (bytes := 16) (fun z hz => by have := (d6 z hz).2; omega) (ys := [.int .i64 x.1, .int .i64 x.2]) rfl (by omega) (by omega)
        have w53 : Gw H3 2 v5 _ _ P5 := w52.keep ch3.1 fun y hy => ch3.keep (by have := (d5 y (w5.ubP hy)).2.1; omega) (fun e => (d5 y (w5.ubP hy)).2.2 (w6.ubP e))
        rw [n2] at ap n3 w63
        simp -implicitDefEqProofs only [g0, g1, g5, g6, g15, g16, g17, hlt', hi0, ld, ld2, ld3, st, ap, hdue, hw, n2, Bool.false_eq_true, ↓WP_seq, ↓WP_skip, ↓WP_region, ↓WP_dregion, ↓WP_cond, ↓WP_block, ↓WP_exit, ↓WP_ret, ↓OW_nil, ↓OW_cons, ↓DW_nil, ↓DW_cons, ↓XW_call, XW, exA, KO_eq, KD_eq, OptK_some, EvK_some, GW2_true, GW2_false, KS_normal, KS_ret, KS_exit, KB_normal, KB_ret, KB_exit, CP2_bool, RP_ret, RP_normal, putA_some, putA_none, ev_t, ev_c, evs, evo, wantA, initA, resA, Tr.get_set, vl, chkOk, cond_true, cond_false, Nat.add_zero, Nat.mul_one, Nat.one_mul, Nat.zero_add, Nat.zero_mul, aggOf, pInt, binA, unA, intA, beq_true, beq_false, Bool.not_true, Bool.not_false, Bool.not_eq_true, and_self, and_true, true_and, ↓reduceIte, reduceIte, Nat.reduceEqDiff, Nat.succ_ne_self, Nat.reduceAdd, Nat.reduceMul, Nat.reduceSub, Nat.reduceBEq, Nat.reduceLT, Nat.reduceLeDiff, Int.cast_ofNat_Int, Int.reduceToNat, Int.reduceLT, Int.reduceLE, Int.reduceGE, Int.reduceGT, Int.reduceEq, Int.reduceNe, Int.reduceAdd, Int.reduceSub, Int.reduceNeg, decide_true, decide_false, Int.toNat_natCast, reduceCtorEq, List.nil_append, List.cons_append, AV.boxy, AV.cells, List.length_cons, List.length_nil, Nat.beq_refl, AOp.cl, ↓OW_guard, ↓DW_guard, KDW_0, KDW_1, KDW_2, OWskip_eq, DWskip_eq, fillA, setAt, DChk, DAt, stepA, ble_dec, beq_dec, Bool.and_self, Bool.and_true, Bool.true_and, Bool.and_false, Bool.false_and, List.take_succ_cons, List.take_zero, List.drop_succ_cons, List.drop_zero, List.take_nil, List.drop_nil, List.append_nil, eqAV, eqAVL, BEq.rfl, eqA, eqD, sameS, Option.map, Option.isNone, addrA, wrap64, gt_iff_lt, ge_iff_le, Int.lt_irrefl, Int.le_refl]
        refine ⟨n - 1, by omega, i + 1, by omega, ?_⟩
        unfold I1
        simp -implicitDefEqProofs only [g0, g1, g5, g6, g15, g16, g17, ↓WP_seq, ↓WP_skip, ↓WP_region, ↓WP_dregion, ↓WP_cond, ↓WP_block, ↓WP_exit, ↓WP_ret, ↓OW_nil, ↓OW_cons, ↓DW_nil, ↓DW_cons, ↓XW_call, XW, exA, KO_eq, KD_eq, OptK_some, EvK_some, GW2_true, GW2_false, KS_normal, KS_ret, KS_exit, KB_normal, KB_ret, KB_exit, CP2_bool, RP_ret, RP_normal, putA_some, putA_none, ev_t, ev_c, evs, evo, wantA, initA, resA, Tr.get_set, vl, chkOk, cond_true, cond_false, Nat.add_zero, Nat.mul_one, Nat.one_mul, Nat.zero_add, Nat.zero_mul, aggOf, pInt, binA, unA, intA, beq_true, beq_false, Bool.not_true, Bool.not_false, Bool.not_eq_true, and_self, and_true, true_and, ↓reduceIte, reduceIte, Nat.reduceEqDiff, Nat.succ_ne_self, Nat.reduceAdd, Nat.reduceMul, Nat.reduceSub, Nat.reduceBEq, Nat.reduceLT, Nat.reduceLeDiff, Int.cast_ofNat_Int, Int.reduceToNat, Int.reduceLT, Int.reduceLE, Int.reduceGE, Int.reduceGT, Int.reduceEq, Int.reduceNe, Int.reduceAdd, Int.reduceSub, Int.reduceNeg, decide_true, decide_false, Int.toNat_natCast, reduceCtorEq, List.nil_append, List.cons_append, AV.boxy, AV.cells, List.length_cons, List.length_nil, Nat.beq_refl, AOp.cl, ↓OW_guard, ↓DW_guard, KDW_0, KDW_1, KDW_2, OWskip_eq, DWskip_eq, fillA, setAt, DChk, DAt, stepA, ble_dec, beq_dec, Bool.and_self, Bool.and_true, Bool.true_and, Bool.and_false, Bool.false_and, List.take_succ_cons, List.take_zero, List.drop_succ_cons, List.drop_zero, List.take_nil, List.drop_nil, List.append_nil, eqAV, eqAVL, BEq.rfl, eqA, eqD, sameS, Option.map, Option.isNone, addrA, wrap64, gt_iff_lt, ge_iff_le, Int.lt_irrefl, Int.le_refl]
        refine ⟨(hch.trans ch2).weak ch3 fun z hz => (d6 z (w6.ubP hz)).1, _, _, P5, fun z => P6 z ∨ z = H1.next + 1 + 1, rfl, rfl, ?_, ?_, ?_, ?_⟩
        · rw [ht2, ← ht1, List.filter_append]
          have : [x].filter (due now) = [] := by simp [hd1]
          rw [this, List.append_nil]
          exact w53
        · rw [ht2, ← ht1, List.filter_append]
          have : [x].filter (fun x => !due now x) = [x] := by simp [hd1]
          rw [this, slp_append, List.length_append]
          exact w63
        · intro z hz
          obtain ⟨q1, q2, q3⟩ := d5 z hz
          refine ⟨q1, by omega, ?_⟩
          rintro (hz' | rfl)
          · exact q3 hz'
          · omega
        · rintro z (hz | rfl)
          · obtain ⟨q1, q2⟩ := d6 z hz
            exact ⟨q1, by omega⟩
          · have := hch.1
            exact ⟨by omega, by omega⟩
    · have hlt' : ¬ (i : Int) < (s.s.length : Int) := by omega
      have e1 : s.s.take i = s.s := List.take_of_length_le (by omega)
      rw [e1] at w5 w6
      unfold I1E
      simp -implicitDefEqProofs only [g0, g1, g5, g6, g15, g16, g17, hlt', Bool.false_eq_true, ↓WP_seq, ↓WP_skip, ↓WP_region, ↓WP_dregion, ↓WP_cond, ↓WP_block, ↓WP_exit, ↓WP_ret, ↓OW_nil, ↓OW_cons, ↓DW_nil, ↓DW_cons, ↓XW_call, XW, exA, KO_eq, KD_eq, OptK_some, EvK_some, GW2_true, GW2_false, KS_normal, KS_ret, KS_exit, KB_normal, KB_ret, KB_exit, CP2_bool, RP_ret, RP_normal, putA_some, putA_none, ev_t, ev_c, evs, evo, wantA, initA, resA, Tr.get_set, vl, chkOk, cond_true, cond_false, Nat.add_zero, Nat.mul_one, Nat.one_mul, Nat.zero_add, Nat.zero_mul, aggOf, pInt, binA, unA, intA, beq_true, beq_false, Bool.not_true, Bool.not_false, Bool.not_eq_true, and_self, and_true, true_and, ↓reduceIte, reduceIte, Nat.reduceEqDiff, Nat.succ_ne_self, Nat.reduceAdd, Nat.reduceMul, Nat.reduceSub, Nat.reduceBEq, Nat.reduceLT, Nat.reduceLeDiff, Int.cast_ofNat_Int, Int.reduceToNat, Int.reduceLT, Int.reduceLE, Int.reduceGE, Int.reduceGT, Int.reduceEq, Int.reduceNe, Int.reduceAdd, Int.reduceSub, Int.reduceNeg, decide_true, decide_false, Int.toNat_natCast, reduceCtorEq, List.nil_append, List.cons_append, AV.boxy, AV.cells, List.length_cons, List.length_nil, Nat.beq_refl, AOp.cl, ↓OW_guard, ↓DW_guard, KDW_0, KDW_1, KDW_2, OWskip_eq, DWskip_eq, fillA, setAt, DChk, DAt, stepA, ble_dec, beq_dec, Bool.and_self, Bool.and_true, Bool.true_and, Bool.and_false, Bool.false_and, List.take_succ_cons, List.take_zero, List.drop_succ_cons, List.drop_zero, List.take_nil, List.drop_nil, List.append_nil, eqAV, eqAVL, BEq.rfl, eqA, eqD, sameS, Option.map, Option.isNone, addrA, wrap64, gt_iff_lt, ge_iff_le, Int.lt_irrefl, Int.le_refl]
      exact ⟨hch, v5, v6, P5, P6, rfl, rfl, w5, w6, d5, d6⟩
end
end Go.Proofs.Ytldlolpbnfgdeaa.AA
namespace Go.Proofs.Ytldlolpbnfgdeaa.AA
open Go Go.RowKit
set_option maxRecDepth 100000
set_option maxHeartbeats 1000000
/-- The best one of those whose time it is: the first of the least. -/
structure Best (now : Int) (l : List (Nat × Int)) (k : Nat) (m : Nat × Int) (a c : List (Nat × Int)) : Prop where
  eq : l = a ++ m :: c
  len : a.length = k
  d : due now m = true
  lo : ∀ z, z ∈ a → due now z = true → m.2 < z.2
  hi : ∀ z, z ∈ c → due now z = true → m.2 ≤ z.2
theorem bub_all : ∀ {r : List (Nat × Int)} {x : Nat × Int} {post : List (Nat × Int)}, (∀ y, y ∈ r → x.2 < y.2) → bub r x post = x :: (r.reverse ++ post)
  | [], x, post, h => rfl
  | y :: r, x, post, h => by
    unfold bub
    rw [if_pos (h y (List.mem_cons_self ..)), bub_all fun z hz => h z (List.mem_cons_of_mem _ hz)]
    simp
theorem bub_snoc : ∀ {r : List (Nat × Int)} {m z : Nat × Int} {post : List (Nat × Int)}, ¬ z.2 < m.2 → bub (r ++ [m]) z post = m :: bub r z post
  | [], m, z, post, h => by simp [bub, h]
  | y :: r, m, z, post, h => by
    simp only [List.cons_append, bub]
    split
    · exact bub_snoc h
    · simp
theorem isort_best {a c : List (Nat × Int)} {m : Nat × Int} (ha : ∀ z, z ∈ a → m.2 < z.2) (hc : ∀ z, z ∈ c → m.2 ≤ z.2) : isort (a ++ m :: c) = m :: isort (a ++ c) := by
  have e1 : isort (a ++ [m]) = m :: isort a := by
    rw [isort_snoc, bub_all fun y hy => ha y (isort_mem (by simpa using hy))]
    simp
  have key : ∀ (c S : List (Nat × Int)), (∀ z, z ∈ c → m.2 ≤ z.2) → c.foldl (fun S x => bub S.reverse x []) (m :: S) = m :: c.foldl (fun S x => bub S.reverse x []) S := by
    intro c
    induction c with
    | nil => intro S _; rfl
    | cons z c ih =>
      intro S hz
      rw [List.foldl_cons, List.foldl_cons]
      have : bub (m :: S).reverse z [] = m :: bub S.reverse z [] := by
        rw [List.reverse_cons]
        exact bub_snoc (by have := hz z (List.mem_cons_self ..); omega)
      rw [this]
      exact ih _ fun y hy => hz y (List.mem_cons_of_mem _ hy)
  have e2 : isort (a ++ m :: c) = c.foldl (fun S x => bub S.reverse x []) (isort (a ++ [m])) := by
    rw [show a ++ m :: c = (a ++ [m]) ++ c by simp]
    simp [isort]
  rw [e2, e1, key c _ hc]
  simp [isort]
theorem Best.wkd {now : Int} {l : List (Nat × Int)} {k : Nat} {m : Nat × Int} {a c : List (Nat × Int)} (h : Best now l k m a c) : isort (l.filter (due now)) = m :: isort ((a ++ c).filter (due now)) := by
  rw [h.eq, List.filter_append, List.filter_cons, if_pos h.d, List.filter_append]
  refine isort_best (fun z hz => ?_) fun z hz => ?_
  · obtain ⟨h1, h2⟩ := List.mem_filter.1 hz
    exact h.lo z h1 h2
  · obtain ⟨h1, h2⟩ := List.mem_filter.1 hz
    exact h.hi z h1 h2
theorem Best.wkr {now : Int} {l : List (Nat × Int)} {k : Nat} {m : Nat × Int} {a c : List (Nat × Int)} (h : Best now l k m a c) : l.filter (fun x => !due now x) = (a ++ c).filter (fun x => !due now x) := by
  rw [h.eq, List.filter_append, List.filter_cons, if_neg (by simp [h.d]), List.filter_append]
/-- What has been looked at. -/
def BestI (now : Int) (l : List (Nat × Int)) (best : Int) : Prop := (best = -1 ∧ ∀ z, z ∈ l → due now z = false) ∨ ∃ k m a c, best = (k : Nat) ∧ Best now l k m a c
theorem BestI.no {now : Int} {l : List (Nat × Int)} {best : Int} (h : BestI now l best) {x : Nat × Int} (hx : due now x = false) : BestI now (l ++ [x]) best := by
  rcases h with ⟨rfl, h⟩ | ⟨k, m, a, c, rfl, h⟩
  · exact .inl ⟨rfl, fun z hz => by
      rcases List.mem_append.1 hz with hz | hz
      · exact h z hz
      · simp at hz; subst hz; exact hx⟩
  · refine .inr ⟨k, m, a, c ++ [x], rfl, by rw [h.eq]; simp, h.len, h.d, h.lo, fun z hz hd => ?_⟩
    rcases List.mem_append.1 hz with hz | hz
    · exact h.hi z hz hd
    · simp at hz; subst hz; rw [hx] at hd; cases hd
theorem BestI.ge {now : Int} {l : List (Nat × Int)} {k : Nat} {m : Nat × Int} {a c : List (Nat × Int)} (h : Best now l k m a c) {x : Nat × Int} (hx : ¬ x.2 < m.2) : BestI now (l ++ [x]) k :=
  .inr ⟨k, m, a, c ++ [x], rfl, by rw [h.eq]; simp, h.len, h.d, h.lo, fun z hz hd => by
    rcases List.mem_append.1 hz with hz | hz
    · exact h.hi z hz hd
    · simp at hz; subst hz; omega⟩
theorem BestI.first {now : Int} {l : List (Nat × Int)} (h : ∀ z, z ∈ l → due now z = false) {x : Nat × Int} (hx : due now x = true) : BestI now (l ++ [x]) l.length :=
  .inr ⟨l.length, x, l, [], rfl, rfl, rfl, hx, (fun z hz hd => by rw [h z hz] at hd; cases hd), by simp⟩
theorem BestI.lt {now : Int} {l : List (Nat × Int)} {k : Nat} {m : Nat × Int} {a c : List (Nat × Int)} (h : Best now l k m a c) {x : Nat × Int} (hd : due now x = true) (hx : x.2 < m.2) : BestI now (l ++ [x]) l.length :=
  .inr ⟨l.length, x, l, [], rfl, rfl, rfl, hd, (fun z hz hdz => by
    rw [h.eq] at hz
    rcases List.mem_append.1 hz with hz | hz
    · have := h.lo z hz hdz; omega
    · rcases List.mem_cons.1 hz with rfl | hz
      · exact hx
      · have := h.hi z hz hdz; omega), by simp⟩
section
variable {H : AHeap} {b n : Nat} {f : Nat → AV} {D : Nat → Prop} {g : Nat → SV} {s : QS}
theorem Chg.refl' (H : AHeap) (u : Option Nat) : Chg H H u := ⟨Nat.le_refl _, fun _ _ => ⟨.inl rfl, fun _ => rfl⟩⟩
/-- An append, of some or of none. -/
theorem Sl.appendAny {s n bytes : Nat} {v : AV} {cs : List AV} (h : Sl H D s v n cs) {ys : List AV} {m : Nat} {yv : AV} (hy : srcA H s false yv = some (ys, m)) (hyl : ys.length = m * s) (hb : (n + m) * bytes ≤ 140737488355328) (hb' : n + m ≤ 140737488355328) :
    ∃ v' H', appendF H s bytes false v yv = some (v', H') ∧ Chg H H' (ub v) ∧ Sl H' (fun x => D x ∨ (H.next ≤ x ∧ x < H'.next)) s v' (n + m) (cs ++ ys) ∧ ∀ y, ub v' = some y → H.next ≤ y ∨ ub v = some y := by
  by_cases hm : m = 0
  · subst hm
    obtain rfl : ys = [] := by simpa using hyl
    refine ⟨v, H, h.append0 hy, Chg.refl' H _, ?_, fun y hy => .inr hy⟩
    rw [Nat.add_zero, List.append_nil]
    exact h.mono fun x hx => .inl hx
  · obtain ⟨H', e1, e2, e3, e4⟩ := h.append (bytes := bytes) hy hyl hm hb hb'
    refine ⟨_, H', e1, e3, Sl.mono e4 fun y hy => .inr ?_, fun y hy => .inl ?_⟩
    · subst hy; omega
    · obtain rfl : H.next = y := Option.some.inj hy
      exact Nat.le_refl _
theorem Rd.sub {x o i n : Nat} {cs cs' : List AV} (h : Rd H x o cs) (hc : ∃ p q, cs = p ++ cs' ++ q ∧ p.length = i) : Rd H x (o + i) cs' := by
  obtain ⟨p, q, rfl, rfl⟩ := hc
  obtain ⟨hx, c, k, own, par, hg, hk, hf⟩ := h
  refine ⟨hx, c, k, own, par, hg, by simp at hk; omega, fun j v hj => ?_⟩
  rw [Nat.add_assoc]
  refine hf _ v ?_
  have := (List.getElem?_eq_some_iff.1 hj).1
  rw [List.append_assoc, List.getElem?_append_right (by omega), List.getElem?_append_left (by omega)]
  rwa [show p.length + j - p.length = j by omega]
/-- One is taken out of a list, into new blocks. -/
theorem cut_out {x o k n : Nat} {c1 c2 : Bool} {a c : List (Nat × Int)} {m : Nat × Int} (h : Rd H x o (slp (a ++ m :: c))) (hk : a.length = k) (hn : c.length = n) (h6 : k + n < 1000) :
    ∃ v1 H2 v2 H3, appendF (H.newRow []) 2 16 false (.slice (some (H.next, 0)) 2 0 true) (.slice (some (x, o)) 2 k c1) = some (v1, H2) ∧ appendF H2 2 16 false v1 (.slice (some (x, o + (k + 1) * 2)) 2 n c2) = some (v2, H3) ∧
      Chg H H2 none ∧ Chg H H3 none ∧ Sl H3 (fun y => H.next ≤ y ∧ y < H3.next) 2 v2 (k + n) (slp (a ++ c)) ∧ ∀ y, ub v2 = some y → H.next ≤ y := by
  subst hk; subst hn
  have ch1 := Chg.newRow H []
  have s1 : Sl (H.newRow []) (fun y => H.next ≤ y ∧ y < H.next + 1) 2 (.slice (some (H.next, 0)) 2 0 true) 0 [] := .inr ⟨H.next, 0, true, rfl, ⟨Nat.le_refl _, by omega⟩, rfl, Rd.newRow H [], by simp⟩
  have r1 : Rd H x o (slp a) := by
    have := h.sub (i := 0) (n := 0) (cs' := slp a) ⟨[], slp (m :: c), by rw [slp_append]; rfl, rfl⟩
    simpa using this
  have r2 : Rd H x (o + (a.length + 1) * 2) (slp c) := h.sub (n := 0) ⟨slp (a ++ [m]), [], by rw [List.append_nil, ← slp_append]; simp, by rw [slp_len]; simp⟩
  have src1 : srcA (H.newRow []) 2 false (.slice (some (x, o)) 2 a.length c1) = some (slp a, a.length) := srcA_slice (r1.keep ch1.1 (ch1.keep r1.1 (by simp))) (slp_len a)
  obtain ⟨v1, H2, e1, ch2, s2, u2⟩ := s1.appendAny (bytes := 16) src1 (slp_len a) (by omega) (by omega)
  have ch2' : Chg H H2 none := ch1.trans ch2
  have src2 : srcA H2 2 false (.slice (some (x, o + (a.length + 1) * 2)) 2 c.length c2) = some (slp c, c.length) := srcA_slice (r2.keep ch2'.1 (ch2'.keep r2.1 (by simp))) (slp_len c)
  obtain ⟨v2, H3, e2, ch3, s3, u3⟩ := s2.appendAny (bytes := 16) src2 (slp_len c) (by omega) (by omega)
  have hu1 : ∀ y, ub v1 = some y → H.next ≤ y := fun y hy => by
    rcases u2 y hy with h' | h'
    · have := ch1.1; omega
    · cases h'
  have hn1 : (H.newRow []).next = H.next + 1 := rfl
  have hn2 := ch2.1
  have hn3 := ch3.1
  refine ⟨v1, H2, v2, H3, e1, e2, ch2', ch2'.weak ch3 hu1, ?_, fun y hy => ?_⟩
  · rw [Nat.zero_add, List.nil_append, ← slp_append] at s3
    refine Sl.mono s3 fun y hy => ?_
    rcases hy with (hy | hy) | hy <;> omega
  · rcases u3 y hy with h' | h'
    · omega
    · exact hu1 y h'
end
end Go.Proofs.Ytldlolpbnfgdeaa.AA
namespace Go.Proofs.Ytldlolpbnfgdeaa.AA
open Go Go.RowKit
set_option maxRecDepth 100000
attribute [local irreducible] Tr.set
set_option maxHeartbeats 1000000
section
variable {H : AHeap} {b n : Nat} {f : Nat → AV} {D : Nat → Prop} {g : Nat → SV} {s : QS}
/-- The outer loop: what is still asleep, who has been woken. -/
def J1 (H : AHeap) (s : QS) (b : Nat) (D : Nat → Prop) (now : Int) (k : Nat) (fr : AFr) (H' : AHeap) : Prop :=
  fr.get 0 = some (.ptr (some (b, 0))) ∧ fr.get 1 = some (.int .i64 now) ∧ Fp H H' b D ∧ ∃ l out v9 P9 f' D', fr.get 5 = some v9 ∧ (l.filter (due now)).length = k ∧ l.length + out.length = s.s.length ∧ (∀ z, z ∈ l → z ∈ s.s) ∧
    out ++ (isort (l.filter (due now))).map (·.1) = vWake s now ∧ l.filter (fun x => !due now x) = wkr s now ∧
    Gw H' 1 v9 out.length (nats out) P9 ∧ QC H' b 19 f' D' (gR (pss (s.sets l) out)) ∧ (∀ z, D' z → (D z ∨ H.next ≤ z) ∧ ¬ P9 z) ∧ (∀ z, D z → D' z) ∧ ∀ z, P9 z → H.next ≤ z ∧ z < H'.next
def J2 (H1 : AHeap) (b : Nat) (now : Int) (l : List (Nat × Int)) (v9 v12 : AV) (i : Nat) (fr : AFr) (H' : AHeap) : Prop :=
  fr.get 0 = some (.ptr (some (b, 0))) ∧ fr.get 1 = some (.int .i64 now) ∧ fr.get 5 = some v9 ∧ fr.get 13 = some v12 ∧ fr.get 14 = some (.int .i64 l.length) ∧ fr.get 15 = some (.int .i64 i) ∧ Chg H1 H' none ∧ ∃ best : Int, fr.get 6 = some (.int .i64 best) ∧ BestI now (l.take i) best
def J2E (H1 : AHeap) (b : Nat) (now : Int) (l : List (Nat × Int)) (v9 : AV) (ex : AEx) (fr : AFr) (H' : AHeap) : Prop := ex = .exit 2 ∧
  fr.get 0 = some (.ptr (some (b, 0))) ∧ fr.get 1 = some (.int .i64 now) ∧ fr.get 5 = some v9 ∧ Chg H1 H' none ∧ ∃ best : Int, fr.get 6 = some (.int .i64 best) ∧ BestI now l best
theorem pss_s (s : QS) (l : List Nat) : (pss s l).s = s.s := by
  unfold pss
  induction l generalizing s with
  | nil => rfl
  | cons x l ih => rw [List.foldl_cons, ih]; rfl
theorem pss_inn (s : QS) (l : List Nat) : (pss s l).inn = s.inn := by
  unfold pss
  induction l generalizing s with
  | nil => rfl
  | cons x l ih => rw [List.foldl_cons, ih]; rfl
theorem pss_sets_len (s : QS) (m : List (Nat × Int)) (l : List Nat) (i : Nat) : ((pss (s.sets m) l).r i).length ≤ (s.r i).length + l.length := pss_len (s.sets m) l i
theorem pss_sets (s : QS) (l : List Nat) (m : List (Nat × Int)) : (pss s l).sets m = pss (s.sets m) l := by
  unfold pss
  induction l generalizing s with
  | nil => rfl
  | cons x l ih => rw [List.foldl_cons, List.foldl_cons, ih]; rfl
theorem c_rWake (h : QC H b 19 f D (gR s)) (hi : Inv s) (now : Int) : CW M0 67 [.ptr (some (b, 0)), iv now] H fun v H' => (∃ P, (∀ y, P y → H.next ≤ y) ∧ Sl H' P 1 v (vWake s now).length (nats (vWake s now))) ∧ Go H H' b 19 D (gR (mWake s now)) := by
  refine CW_of (fn := af67) rfl ?_
  have hlen := hi.lens
  have hbH := h.blk.1
  unfold af67
  simp -implicitDefEqProofs only [iv, ↓WP_seq, ↓WP_skip, ↓WP_region, ↓WP_dregion, ↓WP_cond, ↓WP_block, ↓WP_exit, ↓WP_ret, ↓OW_nil, ↓OW_cons, ↓DW_nil, ↓DW_cons, ↓XW_call, XW, exA, KO_eq, KD_eq, OptK_some, EvK_some, GW2_true, GW2_false, KS_normal, KS_ret, KS_exit, KB_normal, KB_ret, KB_exit, CP2_bool, RP_ret, RP_normal, putA_some, putA_none, ev_t, ev_c, evs, evo, wantA, initA, resA, Tr.get_set, vl, chkOk, cond_true, cond_false, Nat.add_zero, Nat.mul_one, Nat.one_mul, Nat.zero_add, Nat.zero_mul, aggOf, pInt, binA, unA, intA, beq_true, beq_false, Bool.not_true, Bool.not_false, Bool.not_eq_true, and_self, and_true, true_and, ↓reduceIte, reduceIte, Nat.reduceEqDiff, Nat.succ_ne_self, Nat.reduceAdd, Nat.reduceMul, Nat.reduceSub, Nat.reduceBEq, Nat.reduceLT, Nat.reduceLeDiff, Int.cast_ofNat_Int, Int.reduceToNat, Int.reduceLT, Int.reduceLE, Int.reduceGE, Int.reduceGT, Int.reduceEq, Int.reduceNe, Int.reduceAdd, Int.reduceSub, Int.reduceNeg, decide_true, decide_false, Int.toNat_natCast, reduceCtorEq, List.nil_append, List.cons_append, AV.boxy, AV.cells, List.length_cons, List.length_nil, Nat.beq_refl, AOp.cl, ↓OW_guard, ↓DW_guard, KDW_0, KDW_1, KDW_2, OWskip_eq, DWskip_eq, fillA, setAt, DChk, DAt, stepA, ble_dec, beq_dec, Bool.and_self, Bool.and_true, Bool.true_and, Bool.and_false, Bool.false_and, List.take_succ_cons, List.take_zero, List.drop_succ_cons, List.drop_zero, List.take_nil, List.drop_nil, List.append_nil, eqAV, eqAVL, BEq.rfl, eqA, eqD, sameS, Option.map, Option.isNone, addrA, wrap64, gt_iff_lt, ge_iff_le, Int.lt_irrefl, Int.le_refl]
  refine WP_loop (J1 H s b D now) (s.s.filter (due now)).length ?_ ?_
  · unfold J1
    simp -implicitDefEqProofs only [↓WP_seq, ↓WP_skip, ↓WP_region, ↓WP_dregion, ↓WP_cond, ↓WP_block, ↓WP_exit, ↓WP_ret, ↓OW_nil, ↓OW_cons, ↓DW_nil, ↓DW_cons, ↓XW_call, XW, exA, KO_eq, KD_eq, OptK_some, EvK_some, GW2_true, GW2_false, KS_normal, KS_ret, KS_exit, KB_normal, KB_ret, KB_exit, CP2_bool, RP_ret, RP_normal, putA_some, putA_none, ev_t, ev_c, evs, evo, wantA, initA, resA, Tr.get_set, vl, chkOk, cond_true, cond_false, Nat.add_zero, Nat.mul_one, Nat.one_mul, Nat.zero_add, Nat.zero_mul, aggOf, pInt, binA, unA, intA, beq_true, beq_false, Bool.not_true, Bool.not_false, Bool.not_eq_true, and_self, and_true, true_and, ↓reduceIte, reduceIte, Nat.reduceEqDiff, Nat.succ_ne_self, Nat.reduceAdd, Nat.reduceMul, Nat.reduceSub, Nat.reduceBEq, Nat.reduceLT, Nat.reduceLeDiff, Int.cast_ofNat_Int, Int.reduceToNat, Int.reduceLT, Int.reduceLE, Int.reduceGE, Int.reduceGT, Int.reduceEq, Int.reduceNe, Int.reduceAdd, Int.reduceSub, Int.reduceNeg, decide_true, decide_false, Int.toNat_natCast, reduceCtorEq, List.nil_append, List.cons_append, AV.boxy, AV.cells, List.length_cons, List.length_nil, Nat.beq_refl, AOp.cl, ↓OW_guard, ↓DW_guard, KDW_0, KDW_1, KDW_2, OWskip_eq, DWskip_eq, fillA, setAt, DChk, DAt, stepA, ble_dec, beq_dec, Bool.and_self, Bool.and_true, Bool.true_and, Bool.and_false, Bool.false_and, List.take_succ_cons, List.take_zero, List.drop_succ_cons, List.drop_zero, List.take_nil, List.drop_nil, List.append_nil, eqAV, eqAVL, BEq.rfl, eqA, eqD, sameS, Option.map, Option.isNone, addrA, wrap64, gt_iff_lt, ge_iff_le, Int.lt_irrefl, Int.le_refl]
    refine ⟨Fp.refl, s.s, [], _, fun _ => False, f, D, rfl, rfl, by simp, fun z hz => hz, rfl, rfl, ⟨rfl, .inl ⟨1, rfl, rfl⟩⟩, h, fun z hz => ⟨.inl hz, by simp⟩, fun z hz => hz, by simp⟩
  rintro k fr H1 ⟨g0, g1, fp1, l, out, v9, P9, f1, D1, g5, hk, hlo, hls, hv, hwr, w9, q1, d1, dd1, d9⟩
  have hl6 : l.length ≤ 6 := by omega
  have hs12 := q1.sl (i := 12) (by omega) (g := gR (pss (s.sets l) out)) (by rw [gR_C (by omega), gC_s])
  rw [pss_s] at hs12
  have hs12' : Sl H1 D1 2 (f1 12) l.length (slp l) := hs12
  obtain ⟨a12, s12, cl12, f12⟩ := hs12'.form
  have l12 := q1.load (i := 12) (by omega)
  rw [f12] at l12
  simp -implicitDefEqProofs only [g0, g1, g5, l12, ↓WP_seq, ↓WP_skip, ↓WP_region, ↓WP_dregion, ↓WP_cond, ↓WP_block, ↓WP_exit, ↓WP_ret, ↓OW_nil, ↓OW_cons, ↓DW_nil, ↓DW_cons, ↓XW_call, XW, exA, KO_eq, KD_eq, OptK_some, EvK_some, GW2_true, GW2_false, KS_normal, KS_ret, KS_exit, KB_normal, KB_ret, KB_exit, CP2_bool, RP_ret, RP_normal, putA_some, putA_none, ev_t, ev_c, evs, evo, wantA, initA, resA, Tr.get_set, vl, chkOk, cond_true, cond_false, Nat.add_zero, Nat.mul_one, Nat.one_mul, Nat.zero_add, Nat.zero_mul, aggOf, pInt, binA, unA, intA, beq_true, beq_false, Bool.not_true, Bool.not_false, Bool.not_eq_true, and_self, and_true, true_and, ↓reduceIte, reduceIte, Nat.reduceEqDiff, Nat.succ_ne_self, Nat.reduceAdd, Nat.reduceMul, Nat.reduceSub, Nat.reduceBEq, Nat.reduceLT, Nat.reduceLeDiff, Int.cast_ofNat_Int, Int.reduceToNat, Int.reduceLT, Int.reduceLE, Int.reduceGE, Int.reduceGT, Int.reduceEq, Int.reduceNe, Int.reduceAdd, Int.reduceSub, Int.reduceNeg, decide_true, decide_false, Int.toNat_natCast, reduceCtorEq, List.nil_append, List.cons_append, AV.boxy, AV.cells, List.length_cons, List.length_nil, Nat.beq_refl, AOp.cl, ↓OW_guard, ↓DW_guard, KDW_0, KDW_1, KDW_2, OWskip_eq, DWskip_eq, fillA, setAt, DChk, DAt, stepA, ble_dec, beq_dec, Bool.and_self, Bool.and_true, Bool.true_and, Bool.and_false, Bool.false_and, List.take_succ_cons, List.take_zero, List.drop_succ_cons, List.drop_zero, List.take_nil, List.drop_nil, List.append_nil, eqAV, eqAVL, BEq.rfl, eqA, eqD, sameS, Option.map, Option.isNone, addrA, wrap64, gt_iff_lt, ge_iff_le, Int.lt_irrefl, Int.le_refl]
  refine WP_mono (Q := J2E H1 b now l v9) ?_ ?_
  · rintro ex fr2 H2 ⟨rfl, f0, f1', f5, ch, best, f6, hb⟩
    rcases hb with ⟨rfl, hno⟩ | ⟨kb, m, a, c, rfl, hB⟩
    · have e0 : l.filter (due now) = [] := List.filter_eq_nil_iff.2 fun z hz => by rw [hno z hz]; simp
      have e1 : l = wkr s now := by
        rw [← hwr]
        exact (List.filter_eq_self.2 fun z hz => by rw [hno z hz]; rfl).symm
      rw [e0] at hv
      have hv' : out = vWake s now := by simpa [isort] using hv
      simp -implicitDefEqProofs only [f0, f1', f5, f6, ↓WP_seq, ↓WP_skip, ↓WP_region, ↓WP_dregion, ↓WP_cond, ↓WP_block, ↓WP_exit, ↓WP_ret, ↓OW_nil, ↓OW_cons, ↓DW_nil, ↓DW_cons, ↓XW_call, XW, exA, KO_eq, KD_eq, OptK_some, EvK_some, GW2_true, GW2_false, KS_normal, KS_ret, KS_exit, KB_normal, KB_ret, KB_exit, CP2_bool, RP_ret, RP_normal, putA_some, putA_none, ev_t, ev_c, evs, evo, wantA, initA, resA, Tr.get_set, vl, chkOk, cond_true, cond_false, Nat.add_zero, Nat.mul_one, Nat.one_mul, Nat.zero_add, Nat.zero_mul, aggOf, pInt, binA, unA, intA, beq_true, beq_false, Bool.not_true, Bool.not_false, Bool.not_eq_true, and_self, and_true, true_and, ↓reduceIte, reduceIte, Nat.reduceEqDiff, Nat.succ_ne_self, Nat.reduceAdd, Nat.reduceMul, Nat.reduceSub, Nat.reduceBEq, Nat.reduceLT, Nat.reduceLeDiff, Int.cast_ofNat_Int, Int.reduceToNat, Int.reduceLT, Int.reduceLE, Int.reduceGE, Int.reduceGT, Int.reduceEq, Int.reduceNe, Int.reduceAdd, Int.reduceSub, Int.reduceNeg, decide_true, decide_false, Int.toNat_natCast, reduceCtorEq, List.nil_append, List.cons_append, AV.boxy, AV.cells, List.length_cons, List.length_nil, Nat.beq_refl, AOp.cl, ↓OW_guard, ↓DW_guard, KDW_0, KDW_1, KDW_2, OWskip_eq, DWskip_eq, fillA, setAt, DChk, DAt, stepA, ble_dec, beq_dec, Bool.and_self, Bool.and_true, Bool.true_and, Bool.and_false, Bool.false_and, List.take_succ_cons, List.take_zero, List.drop_succ_cons, List.drop_zero, List.take_nil, List.drop_nil, List.append_nil, eqAV, eqAVL, BEq.rfl, eqA, eqD, sameS, Option.map, Option.isNone, addrA, wrap64, gt_iff_lt, ge_iff_le, Int.lt_irrefl, Int.le_refl]
      have q2 : QC H2 b 19 f1 D1 _ := q1.step ch.1 (ch.keep q1.blk.1 (by simp)) fun z hz => ch.keep (q1.dn z hz) (by simp)
      have w92 : Gw H2 1 v9 _ _ P9 := w9.keep ch.1 fun y hy => ch.keep (d9 y (w9.ubP hy)).2 (by simp)
      rw [e1] at q2
      refine ⟨⟨P9, fun y hy => (d9 y hy).1, hv' ▸ (Sl.mono w92.sl fun y hy => w92.ubP hy)⟩, ⟨f1, ?_⟩, Nat.le_trans fp1.1 ch.1, fun y hy hyb hyd => by rw [ch.keep (by have := fp1.1; omega) (by simp), fp1.2 y hy hyb hyd]⟩
      unfold mWake
      rw [← hv']
      refine q2.mono (fun z hz => ?_) ?_ ?_
      · rcases (d1 z hz).1 with h' | h'
        · exact .inl h'
        · exact .inr ⟨h', q2.dn z hz⟩
      · rintro (h' | h')
        · exact h.nb h'
        · omega
      · rintro z (h' | h')
        · exact q2.dn z (dd1 z h')
        · exact h'.2
    · have hB1 := hB.eq
      have hkb := hB.len
      obtain ⟨x, o, cl, e1, e2, e3, e4, -⟩ : ∃ x o cl, f1 12 = .slice (some (x, o)) 2 l.length cl ∧ D1 x ∧ (slp l).length = l.length * 2 ∧ Rd H1 x o (slp l) ∧ True := by
        rcases hs12' with ⟨e1, e2, e3⟩ | ⟨y, o, cl', e1, e2, e3, e4, e5⟩
        · rw [hB1] at e3; simp at e3
        · exact ⟨y, o, cl', e1, e2, e3, e4, trivial⟩
      have q2 : QC H2 b 19 f1 D1 _ := q1.step ch.1 (ch.keep q1.blk.1 (by simp)) fun z hz => ch.keep (q1.dn z hz) (by simp)
      have w92 : Gw H2 1 v9 _ _ P9 := w9.keep ch.1 fun y hy => ch.keep (d9 y (w9.ubP hy)).2 (by simp)
      have r2 : Rd H2 x o (slp (a ++ m :: c)) := (e4.keep ch.1 (ch.keep e4.1 (by simp))).congr (congrArg slp hB1)
      have hlc : l.length = kb + 1 + c.length := by rw [hB1]; simp; omega
      obtain ⟨v1, H3, v2, H4, ap1, ap2, ch3, ch4, s4, u4⟩ := cut_out (c1 := cl && decide (kb = l.length)) (c2 := cl) r2 hkb (n := c.length) rfl (by omega)
      obtain ⟨H5, st5, n5, q5, fp5⟩ := q2.store (i := 12) (by omega) ch4 (.inl rfl) (x := .sl 2 (kb + c.length) (slp (a ++ c))) (v' := v2) (Sl.mono s4 fun y hy => .inr hy) (fun y hy => .inl (u4 y hy))
      rw [sets_R (s := pss (s.sets l) out) (l := a ++ c) (by simp; omega) rfl, pss_sets] at q5
      have qs : (s.sets l).sets (a ++ c) = s.sets (a ++ c) := rfl
      rw [qs] at q5
      obtain ⟨b2, s2', k2, ev2⟩ := s4.form
      subst ev2
      have l2 := q2.load (i := 12) (by omega)
      have l3 := q2.chg (Chg.newRow H2 []) (by simp) (j := 12) (by omega)
      have l4 := q2.chg ch3 (by simp) (j := 12) (by omega)
      have l5 := q2.chg ch4 (by simp) (j := 12) (by omega)
      rw [e1] at l2 l3 l4 l5
      have ldm : loadA H2 x (o + kb * 2) 1 = some [.int .i64 m.1] := by
        have := (r2.sub (i := kb * 2) (n := 0) (cs' := slp (m :: c)) ⟨slp a, [], by rw [List.append_nil, ← slp_append], by rw [slp_len, hkb]⟩).one (j := 0) (v := .int .i64 m.1) rfl
        simpa using this
      have hk0 : (0 : Int) ≤ (kb : Int) := by omega
      have hk1 : ¬ (kb : Int) < 0 := by omega
      have hk2 : (kb : Int) < (l.length : Int) := by omega
      have hk3 : (kb : Int) ≤ (l.length : Int) := by omega
      have hk4 : (0 : Int) ≤ (kb : Int) + 1 := by omega
      have hk5 : (kb : Int) + 1 ≤ (l.length : Int) := by omega
      have hw : IntKind.i64.wrap ((kb : Int) + 1) = (kb : Int) + 1 := wrap64 (by omega) (by omega)
      have ht : ((kb : Int) + 1).toNat = kb + 1 := by omega
      have hsub : l.length - (kb + 1) = c.length := by omega
      have hmm : m ∈ s.s := hls m (by rw [hB1]; simp)
      have hin := hi.mems hmm
      have hp6 := hi.inn _ hin
      have hlv4 := hi.lv4 m.1
      simp -implicitDefEqProofs only [f0, f1', f5, f6, l2, l3, l4, l5, ldm, hk0, hk1, hk2, hk3, hk4, hk5, hw, ht, hsub, ap1, ap2, st5, slA, boundA, Option.isSome, Option.isNone, Nat.sub_zero, Bool.false_eq_true, ↓WP_seq, ↓WP_skip, ↓WP_region, ↓WP_dregion, ↓WP_cond, ↓WP_block, ↓WP_exit, ↓WP_ret, ↓OW_nil, ↓OW_cons, ↓DW_nil, ↓DW_cons, ↓XW_call, XW, exA, KO_eq, KD_eq, OptK_some, EvK_some, GW2_true, GW2_false, KS_normal, KS_ret, KS_exit, KB_normal, KB_ret, KB_exit, CP2_bool, RP_ret, RP_normal, putA_some, putA_none, ev_t, ev_c, evs, evo, wantA, initA, resA, Tr.get_set, vl, chkOk, cond_true, cond_false, Nat.add_zero, Nat.mul_one, Nat.one_mul, Nat.zero_add, Nat.zero_mul, aggOf, pInt, binA, unA, intA, beq_true, beq_false, Bool.not_true, Bool.not_false, Bool.not_eq_true, and_self, and_true, true_and, ↓reduceIte, reduceIte, Nat.reduceEqDiff, Nat.succ_ne_self, Nat.reduceAdd, Nat.reduceMul, Nat.reduceSub, Nat.reduceBEq, Nat.reduceLT, Nat.reduceLeDiff, Int.cast_ofNat_Int, Int.reduceToNat, Int.reduceLT, Int.reduceLE, Int.reduceGE, Int.reduceGT, Int.reduceEq, Int.reduceNe, Int.reduceAdd, Int.reduceSub, Int.reduceNeg, decide_true, decide_false, Int.toNat_natCast, reduceCtorEq, List.nil_append, List.cons_append, AV.boxy, AV.cells, List.length_cons, List.length_nil, Nat.beq_refl, AOp.cl, ↓OW_guard, ↓DW_guard, KDW_0, KDW_1, KDW_2, OWskip_eq, DWskip_eq, fillA, setAt, DChk, DAt, stepA, ble_dec, beq_dec, Bool.and_self, Bool.and_true, Bool.true_and, Bool.and_false, Bool.false_and, List.take_succ_cons, List.take_zero, List.drop_succ_cons, List.drop_zero, List.take_nil, List.drop_nil, List.append_nil, eqAV, eqAVL, BEq.rfl, eqA, eqD, sameS, Option.map, Option.isNone, addrA, wrap64, gt_iff_lt, ge_iff_le, Int.lt_irrefl, Int.le_refl]
      have hlt0 : ((pss (s.sets (a ++ c)) out).r (s.lv m.1)).length < 1000 := by
        have h1 := pss_sets_len s (a ++ c) out (s.lv m.1)
        have h2 := hi.lenr (i := s.lv m.1) (by omega)
        clear hw ht ap1 ap2 st5 l2 l3 l4 l5 ldm
        omega
      refine CW.mono (c_back q5 (p := m.1) (l := s.lv m.1) hp6 (by rw [pss_inn]; exact hin) (by rw [pss_lv]; rfl) hlv4 hlt0) ?_
      intro v6 H6 hg
      obtain ⟨f6', q6⟩ : ∃ f', QC H6 b 19 f' (Ex (Ex D1 H2 H5) H5 H6) (gR (ps (pss (s.sets (a ++ c)) out) m.1)) := hg.1
      have fp6 : Fp H5 H6 b (Ex D1 H2 H5) := hg.2
      clear hg
      have hD2 : ∀ z, D1 z → z < H2.next := q2.dn
      have hn25 : H2.next ≤ H5.next := fp5.1
      have hn56 : H5.next ≤ H6.next := fp6.1
      have hk6 : ∀ z, z < H2.next → ¬ D1 z → z ≠ b → H6.get z = H2.get z := fun z hz hd hzb => by
        rw [fp6.2 z (by omega) hzb (by rintro (e | e); exact hd e; omega), fp5.2 z hz hzb hd]
      have hu9 : ∀ y, ub v9 = some y → P9 y := fun y hy => w9.ubP hy
      have w96 : Gw H6 1 v9 _ _ P9 := w92.keep (by omega) fun y hy => by
        have h9 := d9 y (hu9 y hy)
        exact hk6 y (by have := ch.1; omega) (fun e => (d1 y e).2 (hu9 y hy)) (by omega)
      obtain ⟨H7, ap, n7, ch7, w97⟩ := w96.push (bytes := 8) (fun z hz => by have := (d9 z hz).2; have := ch.1; omega) (ys := [.int .i64 m.1]) rfl (by omega) (by omega)
      simp -implicitDefEqProofs only [f0, f1', f5, f6, ap, ↓WP_seq, ↓WP_skip, ↓WP_region, ↓WP_dregion, ↓WP_cond, ↓WP_block, ↓WP_exit, ↓WP_ret, ↓OW_nil, ↓OW_cons, ↓DW_nil, ↓DW_cons, ↓XW_call, XW, exA, KO_eq, KD_eq, OptK_some, EvK_some, GW2_true, GW2_false, KS_normal, KS_ret, KS_exit, KB_normal, KB_ret, KB_exit, CP2_bool, RP_ret, RP_normal, putA_some, putA_none, ev_t, ev_c, evs, evo, wantA, initA, resA, Tr.get_set, vl, chkOk, cond_true, cond_false, Nat.add_zero, Nat.mul_one, Nat.one_mul, Nat.zero_add, Nat.zero_mul, aggOf, pInt, binA, unA, intA, beq_true, beq_false, Bool.not_true, Bool.not_false, Bool.not_eq_true, and_self, and_true, true_and, ↓reduceIte, reduceIte, Nat.reduceEqDiff, Nat.succ_ne_self, Nat.reduceAdd, Nat.reduceMul, Nat.reduceSub, Nat.reduceBEq, Nat.reduceLT, Nat.reduceLeDiff, Int.cast_ofNat_Int, Int.reduceToNat, Int.reduceLT, Int.reduceLE, Int.reduceGE, Int.reduceGT, Int.reduceEq, Int.reduceNe, Int.reduceAdd, Int.reduceSub, Int.reduceNeg, decide_true, decide_false, Int.toNat_natCast, reduceCtorEq, List.nil_append, List.cons_append, AV.boxy, AV.cells, List.length_cons, List.length_nil, Nat.beq_refl, AOp.cl, ↓OW_guard, ↓DW_guard, KDW_0, KDW_1, KDW_2, OWskip_eq, DWskip_eq, fillA, setAt, DChk, DAt, stepA, ble_dec, beq_dec, Bool.and_self, Bool.and_true, Bool.true_and, Bool.and_false, Bool.false_and, List.take_succ_cons, List.take_zero, List.drop_succ_cons, List.drop_zero, List.take_nil, List.drop_nil, List.append_nil, eqAV, eqAVL, BEq.rfl, eqA, eqD, sameS, Option.map, Option.isNone, addrA, wrap64, gt_iff_lt, ge_iff_le, Int.lt_irrefl, Int.le_refl]
      have hfl : (l.filter (due now)).length = ((a ++ c).filter (due now)).length + 1 := by
        rw [hB1, List.filter_append, List.filter_cons, if_pos hB.d, List.filter_append]; simp; omega
      refine ⟨((a ++ c).filter (due now)).length, by omega, ?_⟩
      unfold J1
      simp -implicitDefEqProofs only [f0, f1', f5, f6, ↓WP_seq, ↓WP_skip, ↓WP_region, ↓WP_dregion, ↓WP_cond, ↓WP_block, ↓WP_exit, ↓WP_ret, ↓OW_nil, ↓OW_cons, ↓DW_nil, ↓DW_cons, ↓XW_call, XW, exA, KO_eq, KD_eq, OptK_some, EvK_some, GW2_true, GW2_false, KS_normal, KS_ret, KS_exit, KB_normal, KB_ret, KB_exit, CP2_bool, RP_ret, RP_normal, putA_some, putA_none, ev_t, ev_c, evs, evo, wantA, initA, resA, Tr.get_set, vl, chkOk, cond_true, cond_false, Nat.add_zero, Nat.mul_one, Nat.one_mul, Nat.zero_add, Nat.zero_mul, aggOf, pInt, binA, unA, intA, beq_true, beq_false, Bool.not_true, Bool.not_false, Bool.not_eq_true, and_self, and_true, true_and, ↓reduceIte, reduceIte, Nat.reduceEqDiff, Nat.succ_ne_self, Nat.reduceAdd, Nat.reduceMul, Nat.reduceSub, Nat.reduceBEq, Nat.reduceLT, Nat.reduceLeDiff, Int.cast_ofNat_Int, Int.reduceToNat, Int.reduceLT, Int.reduceLE, Int.reduceGE, Int.reduceGT, Int.reduceEq, Int.reduceNe, Int.reduceAdd, Int.reduceSub, Int.reduceNeg, decide_true, decide_false, Int.toNat_natCast, reduceCtorEq, List.nil_append, List.cons_append, AV.boxy, AV.cells, List.length_cons, List.length_nil, Nat.beq_refl, AOp.cl, ↓OW_guard, ↓DW_guard, KDW_0, KDW_1, KDW_2, OWskip_eq, DWskip_eq, fillA, setAt, DChk, DAt, stepA, ble_dec, beq_dec, Bool.and_self, Bool.and_true, Bool.true_and, Bool.and_false, Bool.false_and, List.take_succ_cons, List.take_zero, List.drop_succ_cons, List.drop_zero, List.take_nil, List.drop_nil, List.append_nil, eqAV, eqAVL, BEq.rfl, eqA, eqD, sameS, Option.map, Option.isNone, addrA, wrap64, gt_iff_lt, ge_iff_le, Int.lt_irrefl, Int.le_refl]
      have hn1 := fp1.1
      have hn2 := ch.1
      have hk7 : ∀ z, z < H6.next → ub v9 ≠ some z → H7.get z = H6.get z := fun z hz hne => ch7.keep hz hne
      refine ⟨⟨by omega, fun z hz hzb hzd => ?_⟩, a ++ c, out ++ [m.1], _, fun z => P9 z ∨ z = H6.next + 1, f6', Ex (Ex D1 H2 H5) H5 H6, rfl, rfl, ?_, ?_, ?_, ?_, ?_, ?_, ?_, fun z hz => .inl (.inl (dd1 z hz)), ?_⟩
      · have h4 : ¬ D1 z := fun e => by
          rcases (d1 z e).1 with h' | h'
          · exact hzd h'
          · omega
        rw [hk7 z (by omega) (fun e => by have := (d9 z (hu9 z e)).1; omega), hk6 z (by omega) h4 hzb, ch.keep (by omega) (by simp), fp1.2 z hz hzb hzd]
      · simp at hlo ⊢; omega
      · intro z hz
        refine hls z ?_
        rw [hB1]
        rcases List.mem_append.1 hz with hz | hz <;> simp [hz]
      · rw [← hv, hB.wkd]; simp
      · rw [← hwr, hB.wkr]
      · have e : nats (out ++ [m.1]) = nats out ++ [.int .i64 m.1] := by simp [nats, iv]
        rw [e, List.length_append]
        exact w97
      · have e : pss (s.sets (a ++ c)) (out ++ [m.1]) = ps (pss (s.sets (a ++ c)) out) m.1 := by simp [pss]
        rw [e]
        refine q6.step (by omega) ?_ fun z hz => ?_
        · exact hk7 b q6.blk.1 fun e => by have := (d9 b (hu9 b e)).1; omega
        · refine hk7 z (q6.dn z hz) fun e => ?_
          have h9 := d9 z (hu9 z e)
          rcases hz with (hz | hz) | hz
          · exact (d1 z hz).2 (hu9 z e)
          · omega
          · omega
      · intro z hz
        rcases hz with (hz | hz) | hz
        · obtain ⟨q1', q2'⟩ := d1 z hz
          refine ⟨q1', ?_⟩
          rintro (e | e)
          · exact q2' e
          · have := hD2 z hz; omega
        · refine ⟨.inr (by omega), ?_⟩
          rintro (e | e)
          · have := (d9 z e).2; omega
          · omega
        · refine ⟨.inr (by omega), ?_⟩
          rintro (e | e)
          · have := (d9 z e).2; omega
          · omega
      · rintro z (hz | rfl)
        · obtain ⟨q1', q2'⟩ := d9 z hz
          exact ⟨q1', by omega⟩
        · exact ⟨by omega, by omega⟩
  · refine WP_loop (fun n fr H' => ∃ i, n + i = l.length ∧ J2 H1 b now l v9 (.slice a12 s12 l.length cl12) i fr H') l.length ?_ ?_
    · refine ⟨0, rfl, ?_⟩
      unfold J2
      simp -implicitDefEqProofs only [g0, g1, g5, ↓WP_seq, ↓WP_skip, ↓WP_region, ↓WP_dregion, ↓WP_cond, ↓WP_block, ↓WP_exit, ↓WP_ret, ↓OW_nil, ↓OW_cons, ↓DW_nil, ↓DW_cons, ↓XW_call, XW, exA, KO_eq, KD_eq, OptK_some, EvK_some, GW2_true, GW2_false, KS_normal, KS_ret, KS_exit, KB_normal, KB_ret, KB_exit, CP2_bool, RP_ret, RP_normal, putA_some, putA_none, ev_t, ev_c, evs, evo, wantA, initA, resA, Tr.get_set, vl, chkOk, cond_true, cond_false, Nat.add_zero, Nat.mul_one, Nat.one_mul, Nat.zero_add, Nat.zero_mul, aggOf, pInt, binA, unA, intA, beq_true, beq_false, Bool.not_true, Bool.not_false, Bool.not_eq_true, and_self, and_true, true_and, ↓reduceIte, reduceIte, Nat.reduceEqDiff, Nat.succ_ne_self, Nat.reduceAdd, Nat.reduceMul, Nat.reduceSub, Nat.reduceBEq, Nat.reduceLT, Nat.reduceLeDiff, Int.cast_ofNat_Int, Int.reduceToNat, Int.reduceLT, Int.reduceLE, Int.reduceGE, Int.reduceGT, Int.reduceEq, Int.reduceNe, Int.reduceAdd, Int.reduceSub, Int.reduceNeg, decide_true, decide_false, Int.toNat_natCast, reduceCtorEq, List.nil_append, List.cons_append, AV.boxy, AV.cells, List.length_cons, List.length_nil, Nat.beq_refl, AOp.cl, ↓OW_guard, ↓DW_guard, KDW_0, KDW_1, KDW_2, OWskip_eq, DWskip_eq, fillA, setAt, DChk, DAt, stepA, ble_dec, beq_dec, Bool.and_self, Bool.and_true, Bool.true_and, Bool.and_false, Bool.false_and, List.take_succ_cons, List.take_zero, List.drop_succ_cons, List.drop_zero, List.take_nil, List.drop_nil, List.append_nil, eqAV, eqAVL, BEq.rfl, eqA, eqD, sameS, Option.map, Option.isNone, addrA, wrap64, gt_iff_lt, ge_iff_le, Int.lt_irrefl, Int.le_refl]
      exact ⟨Chg.refl H1, -1, rfl, .inl ⟨rfl, by simp⟩⟩
    · rintro n fr3 H3 ⟨i, hni, f0, f1', f5, f13, f14, f15, ch, best, f6, hb⟩
      by_cases hlt : i < l.length
      · obtain ⟨l1, x, l2, hx, hl1, ht1, ht2⟩ := split_at hlt
        have hlt' : (i : Int) < (l.length : Int) := by omega
        have hi0 : (0 : Int) ≤ i := by omega
        rcases hs12' with ⟨e1, e2, e3⟩ | ⟨y, o, cl', e1, e2, e3, e4, e5⟩
        · omega
        rw [f12] at e1
        injection e1 with ea es0 _ ecl
        subst ea; subst es0; subst ecl
        have hyn := q1.dn y e2
        have r3 : Rd H3 y o (slp l) := e4.keep ch.1 (ch.keep hyn (by simp))
        have ld : loadA H3 y (o + i * 2) 2 = some [.int .i64 x.1, .int .i64 x.2] := (r3.congr (congrArg slp hx)).two hl1
        obtain ⟨H4, st, n4, ch4, r4⟩ := store_new H3 [.int .i64 0, .int .i64 0] [.int .i64 x.1, .int .i64 x.2] rfl
        have ld3 := r4.one (j := 1) (v := .int .i64 x.2) rfl
        have ch14 := ch.trans ch4
        have hw : IntKind.i64.wrap ((i : Int) + 1) = ((i + 1 : Nat) : Int) := by rw [wrap64 (by omega) (by omega)]; omega
        have l12' : loadA H4 b 12 1 = some [.slice (some (y, o)) 2 l.length cl12] := by
          have q4 : QC H4 b 19 f1 D1 _ := q1.step ch14.1 (ch14.keep q1.blk.1 (by simp)) fun z hz => ch14.keep (q1.dn z hz) (by simp)
          have := q4.load (i := 12) (by omega)
          rwa [f12] at this
        have fin : ∀ best' : Int, BestI now (l1 ++ [x]) best' → ∃ m, m < n ∧ ∃ i', m + i' = l.length ∧ (((i + 1 : Nat) : Int) = (i' : Int)) ∧ Chg H1 H4 none ∧ BestI now (l.take i') best' := fun best' hb' => ⟨n - 1, by omega, i + 1, by omega, rfl, ch14, by rw [ht2]; exact hb'⟩
        rw [ht1] at hb
        by_cases hdue : x.2 ≤ now
        · have hd1 : due now x = true := by simp [due, hdue]
          rcases hb with ⟨rfl, hno⟩ | ⟨kb, m, a, c, rfl, hB⟩
          · have hb' := BestI.first hno hd1
            rw [hl1] at hb'
            simp -implicitDefEqProofs only [f0, f1', f5, f6, f13, f14, f15, hlt', hi0, ld, ld3, st, hdue, hw, l12', Bool.false_eq_true, ↓WP_seq, ↓WP_skip, ↓WP_region, ↓WP_dregion, ↓WP_cond, ↓WP_block, ↓WP_exit, ↓WP_ret, ↓OW_nil, ↓OW_cons, ↓DW_nil, ↓DW_cons, ↓XW_call, XW, exA, KO_eq, KD_eq, OptK_some, EvK_some, GW2_true, GW2_false, KS_normal, KS_ret, KS_exit, KB_normal, KB_ret, KB_exit, CP2_bool, RP_ret, RP_normal, putA_some, putA_none, ev_t, ev_c, evs, evo, wantA, initA, resA, Tr.get_set, vl, chkOk, cond_true, cond_false, Nat.add_zero, Nat.mul_one, Nat.one_mul, Nat.zero_add, Nat.zero_mul, aggOf, pInt, binA, unA, intA, beq_true, beq_false, Bool.not_true, Bool.not_false, Bool.not_eq_true, and_self, and_true, true_and, ↓reduceIte, reduceIte, Nat.reduceEqDiff, Nat.succ_ne_self, Nat.reduceAdd, Nat.reduceMul, Nat.reduceSub, Nat.reduceBEq, Nat.reduceLT, Nat.reduceLeDiff, Int.cast_ofNat_Int, Int.reduceToNat, Int.reduceLT, Int.reduceLE, Int.reduceGE, Int.reduceGT, Int.reduceEq, Int.reduceNe, Int.reduceAdd, Int.reduceSub, Int.reduceNeg, decide_true, decide_false, Int.toNat_natCast, reduceCtorEq, List.nil_append, List.cons_append, AV.boxy, AV.cells, List.length_cons, List.length_nil, Nat.beq_refl, AOp.cl, ↓OW_guard, ↓DW_guard, KDW_0, KDW_1, KDW_2, OWskip_eq, DWskip_eq, fillA, setAt, DChk, DAt, stepA, ble_dec, beq_dec, Bool.and_self, Bool.and_true, Bool.true_and, Bool.and_false, Bool.false_and, List.take_succ_cons, List.take_zero, List.drop_succ_cons, List.drop_zero, List.take_nil, List.drop_nil, List.append_nil, eqAV, eqAVL, BEq.rfl, eqA, eqD, sameS, Option.map, Option.isNone, addrA, wrap64, gt_iff_lt, ge_iff_le, Int.lt_irrefl, Int.le_refl]
            refine ⟨n - 1, by omega, i + 1, by omega, ?_⟩
            unfold J2
            simp -implicitDefEqProofs only [f0, f1', f5, f6, f13, f14, f15, ↓WP_seq, ↓WP_skip, ↓WP_region, ↓WP_dregion, ↓WP_cond, ↓WP_block, ↓WP_exit, ↓WP_ret, ↓OW_nil, ↓OW_cons, ↓DW_nil, ↓DW_cons, ↓XW_call, XW, exA, KO_eq, KD_eq, OptK_some, EvK_some, GW2_true, GW2_false, KS_normal, KS_ret, KS_exit, KB_normal, KB_ret, KB_exit, CP2_bool, RP_ret, RP_normal, putA_some, putA_none, ev_t, ev_c, evs, evo, wantA, initA, resA, Tr.get_set, vl, chkOk, cond_true, cond_false, Nat.add_zero, Nat.mul_one, Nat.one_mul, Nat.zero_add, Nat.zero_mul, aggOf, pInt, binA, unA, intA, beq_true, beq_false, Bool.not_true, Bool.not_false, Bool.not_eq_true, and_self, and_true, true_and, ↓reduceIte, reduceIte, Nat.reduceEqDiff, Nat.succ_ne_self, Nat.reduceAdd, Nat.reduceMul, Nat.reduceSub, Nat.reduceBEq, Nat.reduceLT, Nat.reduceLeDiff, Int.cast_ofNat_Int, Int.reduceToNat, Int.reduceLT, Int.reduceLE, Int.reduceGE, Int.reduceGT, Int.reduceEq, Int.reduceNe, Int.reduceAdd, Int.reduceSub, Int.reduceNeg, decide_true, decide_false, Int.toNat_natCast, reduceCtorEq, List.nil_append, List.cons_append, AV.boxy, AV.cells, List.length_cons, List.length_nil, Nat.beq_refl, AOp.cl, ↓OW_guard, ↓DW_guard, KDW_0, KDW_1, KDW_2, OWskip_eq, DWskip_eq, fillA, setAt, DChk, DAt, stepA, ble_dec, beq_dec, Bool.and_self, Bool.and_true, Bool.true_and, Bool.and_false, Bool.false_and, List.take_succ_cons, List.take_zero, List.drop_succ_cons, List.drop_zero, List.take_nil, List.drop_nil, List.append_nil, eqAV, eqAVL, BEq.rfl, eqA, eqD, sameS, Option.map, Option.isNone, addrA, wrap64, gt_iff_lt, ge_iff_le, Int.lt_irrefl, Int.le_refl]
            exact ⟨ch14, i, rfl, by rw [ht2]; exact hb'⟩
          · have hB1 := hB.eq
            have hkb := hB.len
            have hk0 : (0 : Int) ≤ (kb : Int) := by omega
            have hk1 : ¬ (kb : Int) < 0 := by omega
            have hkl : kb < l1.length := by rw [hB1]; simp; omega
            have hk2 : (kb : Int) < (l.length : Int) := by omega
            have r4' : Rd H4 y o (slp l) := e4.keep ch14.1 (ch14.keep hyn (by simp))
            have ldk : loadA H4 y (o + kb * 2 + 1) 1 = some [.int .i64 m.2] := by
              have hh : l = a ++ m :: (c ++ x :: l2) := by rw [hx, hB1]; simp
              exact ((r4'.congr (congrArg slp hh)).sub (i := kb * 2) (n := 0) (cs' := slp (m :: (c ++ x :: l2))) ⟨slp a, [], by rw [List.append_nil, ← slp_append], by rw [slp_len, hkb]⟩).one (j := 1) (v := .int .i64 m.2) rfl
            by_cases hlt2 : x.2 < m.2
            · have hb' := BestI.lt hB hd1 hlt2
              rw [hl1] at hb'
              simp -implicitDefEqProofs only [f0, f1', f5, f6, f13, f14, f15, hlt', hi0, ld, ld3, st, hdue, hw, l12', hk0, hk1, hk2, ldk, hlt2, Bool.false_eq_true, ↓WP_seq, ↓WP_skip, ↓WP_region, ↓WP_dregion, ↓WP_cond, ↓WP_block, ↓WP_exit, ↓WP_ret, ↓OW_nil, ↓OW_cons, ↓DW_nil, ↓DW_cons, ↓XW_call, XW, exA, KO_eq, KD_eq, OptK_some, EvK_some, GW2_true, GW2_false, KS_normal, KS_ret, KS_exit, KB_normal, KB_ret, KB_exit, CP2_bool, RP_ret, RP_normal, putA_some, putA_none, ev_t, ev_c, evs, evo, wantA, initA, resA, Tr.get_set, vl, chkOk, cond_true, cond_false, Nat.add_zero, Nat.mul_one, Nat.one_mul, Nat.zero_add, Nat.zero_mul, aggOf, pInt, binA, unA, intA, beq_true, beq_false, Bool.not_true, Bool.not_false, Bool.not_eq_true, and_self, and_true, true_and, ↓reduceIte, reduceIte, Nat.reduceEqDiff, Nat.succ_ne_self, Nat.reduceAdd, Nat.reduceMul, Nat.reduceSub, Nat.reduceBEq, Nat.reduceLT, Nat.reduceLeDiff, Int.cast_ofNat_Int, Int.reduceToNat, Int.reduceLT, Int.reduceLE, Int.reduceGE, Int.reduceGT, Int.reduceEq, Int.reduceNe, Int.reduceAdd, Int.reduceSub, Int.reduceNeg, decide_true, decide_false, Int.toNat_natCast, reduceCtorEq, List.nil_append, List.cons_append, AV.boxy, AV.cells, List.length_cons, List.length_nil, Nat.beq_refl, AOp.cl, ↓OW_guard, ↓DW_guard, KDW_0, KDW_1, KDW_2, OWskip_eq, DWskip_eq, fillA, setAt, DChk, DAt, stepA, ble_dec, beq_dec, Bool.and_self, Bool.and_true, Bool.true_and, Bool.and_false, Bool.false_and, List.take_succ_cons, List.take_zero, List.drop_succ_cons, List.drop_zero, List.take_nil, List.drop_nil, List.append_nil, eqAV, eqAVL, BEq.rfl, eqA, eqD, sameS, Option.map, Option.isNone, addrA, wrap64, gt_iff_lt, ge_iff_le, Int.lt_irrefl, Int.le_refl]
              refine ⟨n - 1, by omega, i + 1, by omega, ?_⟩
              unfold J2
              simp -implicitDefEqProofs only [f0, f1', f5, f6, f13, f14, f15, ↓WP_seq, ↓WP_skip, ↓WP_region, ↓WP_dregion, ↓WP_cond, ↓WP_block, ↓WP_exit, ↓WP_ret, ↓OW_nil, ↓OW_cons, ↓DW_nil, ↓DW_cons, ↓XW_call, XW, exA, KO_eq, KD_eq, OptK_some, EvK_some, GW2_true, GW2_false, KS_normal, KS_ret, KS_exit, KB_normal, KB_ret, KB_exit, CP2_bool, RP_ret, RP_normal, putA_some, putA_none, ev_t, ev_c, evs, evo, wantA, initA, resA, Tr.get_set, vl, chkOk, cond_true, cond_false, Nat.add_zero, Nat.mul_one, Nat.one_mul, Nat.zero_add, Nat.zero_mul, aggOf, pInt, binA, unA, intA, beq_true, beq_false, Bool.not_true, Bool.not_false, Bool.not_eq_true, and_self, and_true, true_and, ↓reduceIte, reduceIte, Nat.reduceEqDiff, Nat.succ_ne_self, Nat.reduceAdd, Nat.reduceMul, Nat.reduceSub, Nat.reduceBEq, Nat.reduceLT, Nat.reduceLeDiff, Int.cast_ofNat_Int, Int.reduceToNat, Int.reduceLT, Int.reduceLE, Int.reduceGE, Int.reduceGT, Int.reduceEq, Int.reduceNe, Int.reduceAdd, Int.reduceSub, Int.reduceNeg, decide_true, decide_false, Int.toNat_natCast, reduceCtorEq, List.nil_append, List.cons_append, AV.boxy, AV.cells, List.length_cons, List.length_nil, Nat.beq_refl, AOp.cl, ↓OW_guard, ↓DW_guard, KDW_0, KDW_1, KDW_2, OWskip_eq, DWskip_eq, fillA, setAt, DChk, DAt, stepA, ble_dec, beq_dec, Bool.and_self, Bool.and_true, Bool.true_and, Bool.and_false, Bool.false_and, List.take_succ_cons, List.take_zero, List.drop_succ_cons, List.drop_zero, List.take_nil, List.drop_nil, List.append_nil, eqAV, eqAVL, BEq.rfl, eqA, eqD, sameS, Option.map, Option.isNone, addrA, wrap64, gt_iff_lt, ge_iff_le, Int.lt_irrefl, Int.le_refl]
              exact ⟨ch14, i, rfl, by rw [ht2]; exact hb'⟩
            · have hb' := BestI.ge hB hlt2
              simp -implicitDefEqProofs only [f0, f1', f5, f6, f13, f14, f15, hlt', hi0, ld, ld3, st, hdue, hw, l12', hk0, hk1, hk2, ldk, hlt2, Bool.false_eq_true, ↓WP_seq, ↓WP_skip, ↓WP_region, ↓WP_dregion, ↓WP_cond, ↓WP_block, ↓WP_exit, ↓WP_ret, ↓OW_nil, ↓OW_cons, ↓DW_nil, ↓DW_cons, ↓XW_call, XW, exA, KO_eq, KD_eq, OptK_some, EvK_some, GW2_true, GW2_false, KS_normal, KS_ret, KS_exit, KB_normal, KB_ret, KB_exit, CP2_bool, RP_ret, RP_normal, putA_some, putA_none, ev_t, ev_c, evs, evo, wantA, initA, resA, Tr.get_set, vl, chkOk, cond_true, cond_false, Nat.add_zero, Nat.mul_one, Nat.one_mul, Nat.zero_add, Nat.zero_mul, aggOf, pInt, binA, unA, intA, beq_true, beq_false, Bool.not_true, Bool.not_false, Bool.not_eq_true, and_self, and_true, true_and, ↓reduceIte, reduceIte, Nat.reduceEqDiff, Nat.succ_ne_self, Nat.reduceAdd, Nat.reduceMul, Nat.reduceSub, Nat.reduceBEq, Nat.reduceLT, Nat.reduceLeDiff, Int.cast_ofNat_Int, Int.reduceToNat, Int.reduceLT, Int.reduceLE, Int.reduceGE, Int.reduceGT, Int.reduceEq, Int.reduceNe, Int.reduceAdd, Int.reduceSub, Int.reduceNeg, decide_true, decide_false, Int.toNat_natCast, reduceCtorEq, List.nil_append, List.cons_append, AV.boxy, AV.cells, List.length_cons, List.length_nil, Nat.beq_refl, AOp.cl, ↓OW_guard, ↓DW_guard, KDW_0, KDW_1, KDW_2, OWskip_eq, DWskip_eq, fillA, setAt, DChk, DAt, stepA, ble_dec, beq_dec, Bool.and_self, Bool.and_true, Bool.true_and, Bool.and_false, Bool.false_and, List.take_succ_cons, List.take_zero, List.drop_succ_cons, List.drop_zero, List.take_nil, List.drop_nil, List.append_nil, eqAV, eqAVL, BEq.rfl, eqA, eqD, sameS, Option.map, Option.isNone, addrA, wrap64, gt_iff_lt, ge_iff_le, Int.lt_irrefl, Int.le_refl]
              refine ⟨n - 1, by omega, i + 1, by omega, ?_⟩
              unfold J2
              simp -implicitDefEqProofs only [f0, f1', f5, f6, f13, f14, f15, ↓WP_seq, ↓WP_skip, ↓WP_region, ↓WP_dregion, ↓WP_cond, ↓WP_block, ↓WP_exit, ↓WP_ret, ↓OW_nil, ↓OW_cons, ↓DW_nil, ↓DW_cons, ↓XW_call, XW, exA, KO_eq, KD_eq, OptK_some, EvK_some, GW2_true, GW2_false, KS_normal, KS_ret, KS_exit, KB_normal, KB_ret, KB_exit, CP2_bool, RP_ret, RP_normal, putA_some, putA_none, ev_t, ev_c, evs, evo, wantA, initA, resA, Tr.get_set, vl, chkOk, cond_true, cond_false, Nat.add_zero, Nat.mul_one, Nat.one_mul, Nat.zero_add, Nat.zero_mul, aggOf, pInt, binA, unA, intA, beq_true, beq_false, Bool.not_true, Bool.not_false, Bool.not_eq_true, and_self, and_true, true_and, ↓reduceIte, reduceIte, Nat.reduceEqDiff, Nat.succ_ne_self, Nat.reduceAdd, Nat.reduceMul, Nat.reduceSub, Nat.reduceBEq, Nat.reduceLT, Nat.reduceLeDiff, Int.cast_ofNat_Int, Int.reduceToNat, Int.reduceLT, Int.reduceLE, Int.reduceGE, Int.reduceGT, Int.reduceEq, Int.reduceNe, Int.reduceAdd, Int.reduceSub, Int.reduceNeg, decide_true, decide_false, Int.toNat_natCast, reduceCtorEq, List.nil_append, List.cons_append, AV.boxy, AV.cells, List.length_cons, List.length_nil, Nat.beq_refl, AOp.cl, ↓OW_guard, ↓DW_guard, KDW_0, KDW_1, KDW_2, OWskip_eq, DWskip_eq, fillA, setAt, DChk, DAt, stepA, ble_dec, beq_dec, Bool.and_self, Bool.and_true, Bool.true_and, Bool.and_false, Bool.false_and, List.take_succ_cons, List.take_zero, List.drop_succ_cons, List.drop_zero, List.take_nil, List.drop_nil, List.append_nil, eqAV, eqAVL, BEq.rfl, eqA, eqD, sameS, Option.map, Option.isNone, addrA, wrap64, gt_iff_lt, ge_iff_le, Int.lt_irrefl, Int.le_refl]
              exact ⟨ch14, kb, rfl, by rw [ht2]; exact hb'⟩
        · have hd1 : due now x = false := by simp [due, hdue]
          have hb' := hb.no hd1
          simp -implicitDefEqProofs only [f0, f1', f5, f6, f13, f14, f15, hlt', hi0, ld, ld3, st, hdue, hw, l12', Bool.false_eq_true, ↓WP_seq, ↓WP_skip, ↓WP_region, ↓WP_dregion, ↓WP_cond, ↓WP_block, ↓WP_exit, ↓WP_ret, ↓OW_nil, ↓OW_cons, ↓DW_nil, ↓DW_cons, ↓XW_call, XW, exA, KO_eq, KD_eq, OptK_some, EvK_some, GW2_true, GW2_false, KS_normal, KS_ret, KS_exit, KB_normal, KB_ret, KB_exit, CP2_bool, RP_ret, RP_normal, putA_some, putA_none, ev_t, ev_c, evs, evo, wantA, initA, resA, Tr.get_set, vl, chkOk, cond_true, cond_false, Nat.add_zero, Nat.mul_one, Nat.one_mul, Nat.zero_add, Nat.zero_mul, aggOf, pInt, binA, unA, intA, beq_true, beq_false, Bool.not_true, Bool.not_false, Bool.not_eq_true, and_self, and_true, true_and, ↓reduceIte, reduceIte, Nat.reduceEqDiff, Nat.succ_ne_self, Nat.reduceAdd, Nat.reduceMul, Nat.reduceSub, Nat.reduceBEq, Nat.reduceLT, Nat.reduceLeDiff, Int.cast_ofNat_Int, Int.reduceToNat, Int.reduceLT, Int.reduceLE, Int.reduceGE, Int.reduceGT, Int.reduceEq, Int.reduceNe, Int.reduceAdd, Int.reduceSub, Int.reduceNeg, decide_true, decide_false, Int.toNat_natCast, reduceCtorEq, List.nil_append, List.cons_append, AV.boxy, AV.cells, List.length_cons, List.length_nil, Nat.beq_refl, AOp.cl, ↓OW_guard, ↓DW_guard, KDW_0, KDW_1, KDW_2, OWskip_eq, DWskip_eq, fillA, setAt, DChk, DAt, stepA, ble_dec, beq_dec, Bool.and_self, Bool.and_true, Bool.true_and, Bool.and_false, Bool.false_and, List.take_succ_cons, List.take_zero, List.drop_succ_cons, List.drop_zero, List.take_nil, List.drop_nil, List.append_nil, eqAV, eqAVL, BEq.rfl, eqA, eqD, sameS, Option.map, Option.isNone, addrA, wrap64, gt_iff_lt, ge_iff_le, Int.lt_irrefl, Int.le_refl]
          refine ⟨n - 1, by omega, i + 1, by omega, ?_⟩
          unfold J2
          simp -implicitDefEqProofs only [f0, f1', f5, f6, f13, f14, f15, ↓WP_seq, ↓WP_skip, ↓WP_region, ↓WP_dregion, ↓WP_cond, ↓WP_block, ↓WP_exit, ↓WP_ret, ↓OW_nil, ↓OW_cons, ↓DW_nil, ↓DW_cons, ↓XW_call, XW, exA, KO_eq, KD_eq, OptK_some, EvK_some, GW2_true, GW2_false, KS_normal, KS_ret, KS_exit, KB_normal, KB_ret, KB_exit, CP2_bool, RP_ret, RP_normal, putA_some, putA_none, ev_t, ev_c, evs, evo, wantA, initA, resA, Tr.get_set, vl, chkOk, cond_true, cond_false, Nat.add_zero, Nat.mul_one, Nat.one_mul, Nat.zero_add, Nat.zero_mul, aggOf, pInt, binA, unA, intA, beq_true, beq_false, Bool.not_true, Bool.not_false, Bool.not_eq_true, and_self, and_true, true_and, ↓reduceIte, reduceIte, Nat.reduceEqDiff, Nat.succ_ne_self, Nat.reduceAdd, Nat.reduceMul, Nat.reduceSub, Nat.reduceBEq, Nat.reduceLT, Nat.reduceLeDiff, Int.cast_ofNat_Int, Int.reduceToNat, Int.reduceLT, Int.reduceLE, Int.reduceGE, Int.reduceGT, Int.reduceEq, Int.reduceNe, Int.reduceAdd, Int.reduceSub, Int.reduceNeg, decide_true, decide_false, Int.toNat_natCast, reduceCtorEq, List.nil_append, List.cons_append, AV.boxy, AV.cells, List.length_cons, List.length_nil, Nat.beq_refl, AOp.cl, ↓OW_guard, ↓DW_guard, KDW_0, KDW_1, KDW_2, OWskip_eq, DWskip_eq, fillA, setAt, DChk, DAt, stepA, ble_dec, beq_dec, Bool.and_self, Bool.and_true, Bool.true_and, Bool.and_false, Bool.false_and, List.take_succ_cons, List.take_zero, List.drop_succ_cons, List.drop_zero, List.take_nil, List.drop_nil, List.append_nil, eqAV, eqAVL, BEq.rfl, eqA, eqD, sameS, Option.map, Option.isNone, addrA, wrap64, gt_iff_lt, ge_iff_le, Int.lt_irrefl, Int.le_refl]
          exact ⟨ch14, best, rfl, by rw [ht2]; exact hb'⟩
      · have hlt' : ¬ (i : Int) < (l.length : Int) := by omega
        have e1 : l.take i = l := List.take_of_length_le (by omega)
        rw [e1] at hb
        unfold J2E
        simp -implicitDefEqProofs only [f0, f1', f5, f6, f13, f14, f15, hlt', Bool.false_eq_true, ↓WP_seq, ↓WP_skip, ↓WP_region, ↓WP_dregion, ↓WP_cond, ↓WP_block, ↓WP_exit, ↓WP_ret, ↓OW_nil, ↓OW_cons, ↓DW_nil, ↓DW_cons, ↓XW_call, XW, exA, KO_eq, KD_eq, OptK_some, EvK_some, GW2_true, GW2_false, KS_normal, KS_ret, KS_exit, KB_normal, KB_ret, KB_exit, CP2_bool, RP_ret, RP_normal, putA_some, putA_none, ev_t, ev_c, evs, evo, wantA, initA, resA, Tr.get_set, vl, chkOk, cond_true, cond_false, Nat.add_zero, Nat.mul_one, Nat.one_mul, Nat.zero_add, Nat.zero_mul, aggOf, pInt, binA, unA, intA, beq_true, beq_false, Bool.not_true, Bool.not_false, Bool.not_eq_true, and_self, and_true, true_and, ↓reduceIte, reduceIte, Nat.reduceEqDiff, Nat.succ_ne_self, Nat.reduceAdd, Nat.reduceMul, Nat.reduceSub, Nat.reduceBEq, Nat.reduceLT, Nat.reduceLeDiff, Int.cast_ofNat_Int, Int.reduceToNat, Int.reduceLT, Int.reduceLE, Int.reduceGE, Int.reduceGT, Int.reduceEq, Int.reduceNe, Int.reduceAdd, Int.reduceSub, Int.reduceNeg, decide_true, decide_false, Int.toNat_natCast, reduceCtorEq, List.nil_append, List.cons_append, AV.boxy, AV.cells, List.length_cons, List.length_nil, Nat.beq_refl, AOp.cl, ↓OW_guard, ↓DW_guard, KDW_0, KDW_1, KDW_2, OWskip_eq, DWskip_eq, fillA, setAt, DChk, DAt, stepA, ble_dec, beq_dec, Bool.and_self, Bool.and_true, Bool.true_and, Bool.and_false, Bool.false_and, List.take_succ_cons, List.take_zero, List.drop_succ_cons, List.drop_zero, List.take_nil, List.drop_nil, List.append_nil, eqAV, eqAVL, BEq.rfl, eqA, eqD, sameS, Option.map, Option.isNone, addrA, wrap64, gt_iff_lt, ge_iff_le, Int.lt_irrefl, Int.le_refl]
        exact ⟨ch, best, rfl, hb⟩
end
end Go.Proofs.Ytldlolpbnfgdeaa.AA
