/- The size, the document's reader. -/
import Derived.Test.YtojeldemfccilaaGreatDoorKImgH
set_option linter.unusedSimpArgs false
set_option linter.unusedVariables false
namespace Go.Proofs.YtojeldemfccilaaGreatDoor.AA
open Go Go.RowKit
attribute [local go_sem ↓] exA_lookup stepA_lookup exA_mapUpd WP_seq WP_skip WP_region WP_dregion WP_cond WP_block WP_exit WP_ret OW_nil OW_cons DW_nil DW_cons XW_call reduceIte OW_guard DW_guard
attribute [local go_sem] LkA_some EvA_some updM_some at0 at1 XW exA KO_eq OptK_some EvK_some GW2_true GW2_false KS_normal KS_ret KS_exit KB_normal KB_ret KB_exit CP2_bool RP_ret putA_some putA_none ev_t ev_c evs evo wantA initA resA Tr.get_set vl chkOk cond_true cond_false Nat.add_zero Nat.mul_one Nat.one_mul Nat.zero_add Nat.zero_mul aggOf pInt binA unA intA beq_true beq_false Bool.not_true Bool.not_false Bool.not_eq_true and_self and_true true_and reduceIte Nat.reduceEqDiff Nat.succ_ne_self Nat.reduceAdd Nat.reduceMul Nat.reduceSub Nat.reduceBEq Nat.reduceLT Nat.reduceLeDiff Int.cast_ofNat_Int Int.reduceToNat Int.reduceLT Int.reduceLE Int.reduceGE Int.reduceGT Int.reduceEq Int.reduceNe Int.reduceAdd Int.reduceSub Int.reduceNeg decide_true decide_false Int.toNat_natCast reduceCtorEq List.nil_append List.cons_append AV.boxy AV.cells List.length_cons List.length_nil Nat.beq_refl AOp.cl KDW_0 KDW_1 KDW_2 OWskip_eq DWskip_eq fillA setAt DChk DAt stepA ble_dec beq_dec Bool.and_self Bool.and_true Bool.true_and Bool.and_false Bool.false_and List.take_succ_cons List.take_zero List.drop_succ_cons List.drop_zero List.take_nil List.drop_nil List.append_nil eqAV eqAVL BEq.rfl sameS Option.map Option.isNone wrap64 gt_iff_lt ge_iff_le Int.lt_irrefl Int.le_refl
set_option maxRecDepth 100000
set_option maxHeartbeats 8000000
attribute [local irreducible] Tr.set
theorem c_Size {H : AHeap} {u : UUnit} {cu : List AV} (hu : UnE H u cu) : CW MN 20 [.agg cu] H fun w H' => Sm H H' ∧ w = .int .i64 ((if unitP u = 0 then (bytesP u).length else 0 : Nat) : Int) := by
  refine CW_of (fn := af20) rfl ?_
  dsimp only [af20, qm, q, qG, qn, qi, qb, qB, qk, qc, qo, qg, qv, qr]
  obtain ⟨v1, v2, v3, v4, rfl, hmn, q1, q2, q3, q4⟩ := hu
  have s1 := Chg.newRow H [v1, v2, v3, v4, iv u.main]
  have l1 := (Rd.newRow H [v1, v2, v3, v4, iv u.main]).load (n := 5) rfl
  have hu1 : UnE (H.newRow [v1, v2, v3, v4, iv u.main]) u [v1, v2, v3, v4, iv u.main] := MonoE.un _ _ _ _ ⟨v1, v2, v3, v4, rfl, hmn, q1, q2, q3, q4⟩ s1
  generalize eH1 : H.newRow [v1, v2, v3, v4, iv u.main] = H1 at *
  unfold iv at *
  simp -implicitDefEqProofs only [eH1, l1, eqA, eqD, go_sem]
  refine CW.mono (c_iBytes hu1) ?_
  rintro w H2 ⟨s2, ⟨h1, rfl⟩ | ⟨h1, b, rfl, h3, -⟩⟩
  · rw [if_neg h1]
    simp -implicitDefEqProofs only [eqA, eqD, go_sem]
    exact s1.trans s2
  · rw [if_pos h1]
    obtain ⟨a, s0, cl, rfl⟩ := SlE.shape3 h3
    simp -implicitDefEqProofs only [eqA, eqD, go_sem]
    exact s1.trans s2
section
variable {H0 H : AHeap} {rb : Nat} {d : List Nat} {bad : Bool}
theorem ByE.ld {H : AHeap} {l : List Nat} {a : Option (Nat × Nat)} {s0 n : Nat} {cl : Bool} (h : SlE ByE 1 H l [.slice a s0 n cl]) {i : Nat} (hi : i < l.length) : ∃ x o, a = some (x, o) ∧ s0 = 1 ∧ loadA H x (o + i) 1 = some [.int .u8 (l[i] : Int)] ∧ l[i] < 256 := by
  obtain ⟨x, o, cs, rfl, rfl, ld, -, ⟨rfl, h256⟩, -⟩ := h.at hi
  rw [Nat.mul_one] at ld
  exact ⟨x, o, rfl, rfl, ld, h256⟩
end
attribute [local go_sem ↓] WP_seq WP_skip WP_region WP_dregion WP_cond WP_block WP_exit WP_ret OW_nil OW_cons DW_nil DW_cons XW_call reduceIte OW_guard DW_guard
attribute [local go_sem] XW exA KO_eq OptK_some EvK_some GW2_true GW2_false KS_normal KS_ret KS_exit KB_normal KB_ret KB_exit CP2_bool RP_ret putA_some putA_none ev_t ev_c evs evo wantA initA resA Tr.get_set vl chkOk cond_true cond_false Nat.add_zero Nat.mul_one Nat.one_mul Nat.zero_add Nat.zero_mul aggOf pInt binA unA intA beq_true beq_false Bool.not_true Bool.not_false Bool.not_eq_true and_self and_true true_and reduceIte Nat.reduceEqDiff Nat.succ_ne_self Nat.reduceAdd Nat.reduceMul Nat.reduceSub Nat.reduceBEq Nat.reduceLT Nat.reduceLeDiff Int.cast_ofNat_Int Int.reduceToNat Int.reduceLT Int.reduceLE Int.reduceGE Int.reduceGT Int.reduceEq Int.reduceNe Int.reduceAdd Int.reduceSub Int.reduceNeg decide_true decide_false Int.toNat_natCast reduceCtorEq List.nil_append List.cons_append AV.boxy AV.cells List.length_cons List.length_nil Nat.beq_refl AOp.cl KDW_0 KDW_1 KDW_2 OWskip_eq DWskip_eq fillA setAt DChk DAt stepA ble_dec beq_dec Bool.and_self Bool.and_true Bool.true_and Bool.and_false Bool.false_and List.take_succ_cons List.take_zero List.drop_succ_cons List.drop_zero List.take_nil List.drop_nil List.append_nil eqAV eqAVL BEq.rfl sameS Option.map Option.isNone wrap64 gt_iff_lt ge_iff_le Int.lt_irrefl Int.le_refl
set_option maxHeartbeats 8000000
section
variable {H0 H : AHeap} {rb : Nat} {d : List Nat} {bad : Bool}
section
variable {z : List AV} {y2 y3 lo : Nat} {G G' : AHeap} {l : List AV} {d' : List Nat} {b b' : Bool}
end
end
set_option maxHeartbeats 16000000
section
variable {H0 H : AHeap} {rb : Nat} {y3 lo : Nat} {G G' : AHeap} {l : List AV} {d d' : List Nat} {b b' : Bool}
theorem NR.own (r : RdR H0 rb G d b) {y : Nat} (hy : G.next ≤ y) {K K' : AHeap} (nr : NR rb G K) (rK : RdR H0 rb K d' b') (hn : K.next ≤ K'.next) (hg : ∀ x, x < K.next → x ≠ y → K'.get x = K.get x) : NR rb G K' ∧ RdR H0 rb K' d' b' := by
  have := r.lt
  exact ⟨⟨Nat.le_trans nr.n hn, fun x h1 h2 => by rw [hg x (by have := nr.n; omega) (by omega), nr.g x h1 h2]⟩, rK.keep hn fun x h1 h2 => hg x h1 (by omega)⟩
end
end Go.Proofs.YtojeldemfccilaaGreatDoor.AA
