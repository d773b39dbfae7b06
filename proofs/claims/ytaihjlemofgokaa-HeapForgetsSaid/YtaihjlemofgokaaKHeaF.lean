/- The law. -/
import Derived.Test.YtaihjlemofgokaaKHeaE
set_option linter.unusedSimpArgs false
set_option linter.unusedVariables false
namespace Go.Proofs.Ytaihjlemofgokaa.AA
open Go Go.RowKit
attribute [local go_sem ↓] exA_lookup stepA_lookup exA_mapEnt exA_entSt exA_delete WP_seq WP_skip WP_region WP_dregion WP_cond WP_block WP_exit WP_ret OW_nil OW_cons DW_nil DW_cons XW_call reduceIte OW_guard
attribute [local go_sem] LkA_some EvA_some entL_some at0 at1 at2 XW exA KO_eq OptK_some EvK_some GW2_true GW2_false KS_normal KS_ret KS_exit KB_normal KB_ret KB_exit CP2_bool RP_ret RP_normal putA_some putA_none ev_t ev_c evs evo wantA initA resA Tr.get_set vl chkOk cond_true cond_false Nat.add_zero Nat.mul_one Nat.one_mul Nat.zero_add Nat.zero_mul aggOf pInt binA unA intA beq_true beq_false Bool.not_true Bool.not_false Bool.not_eq_true and_self and_true true_and reduceIte Nat.reduceEqDiff Nat.succ_ne_self Nat.reduceAdd Nat.reduceMul Nat.reduceSub Nat.reduceBEq Nat.reduceLT Nat.reduceLeDiff Int.cast_ofNat_Int Int.reduceToNat Int.reduceLT Int.reduceLE Int.reduceGE Int.reduceGT Int.reduceEq Int.reduceNe Int.reduceAdd Int.reduceSub Int.reduceNeg decide_true decide_false Int.toNat_natCast reduceCtorEq List.nil_append List.cons_append AV.boxy AV.cells List.length_cons List.length_nil Nat.beq_refl AOp.cl KDW_0 KDW_1 KDW_2 OWskip_eq fillA setAt DChk DAt stepA ble_dec beq_dec Bool.and_self Bool.and_true Bool.true_and Bool.and_false Bool.false_and List.take_succ_cons List.take_zero List.drop_succ_cons List.drop_zero List.take_nil List.drop_nil List.append_nil eqAV eqAVL BEq.rfl sameS Option.map Option.isNone wrap64 gt_iff_lt ge_iff_le Int.lt_irrefl Int.le_refl
set_option maxRecDepth 100000
set_option maxHeartbeats 4000000
attribute [local irreducible] Tr.set
abbrev nF : Nat → Nat := fun _ => 16
theorem nF_cfg : Cfg nF := ⟨fun s _ => by show 16 ≤ 512; omega, by decide, by decide⟩
theorem empty_row (n : Nat → Nat) (hc : Cfg n) (s : Nat) : OneRow n (emptyM n) s 1 0 := by
  refine ⟨empty_ok hc, ?_, fun t k _ hk _ _ => ?_⟩
  · show (newMl (n s) 1).length = 0
    simp [newMl]
  · show newMl (n t) k = []
    unfold newMl; rw [if_neg (by omega)]
section
variable {H : AHeap}
theorem c_HeapForgets (x y : Int) : CW MN 4 [.int .i64 x, .int .i64 y] H fun v _ => v = .bool true := by
  refine CW_of (fn := af4) rfl ?_
  unfold af4
  have cfg : ([.int .i64 16, .int .i64 16, .int .i64 16, .int .i64 16, .int .i64 16, .int .i64 1] : List AV) = cfgC nF 1 := rfl
  simp -implicitDefEqProofs only [eqA, eqD, go_sem]
  refine CW.mono (c_withinN x 0 15 H (by omega) (by omega) (by omega)) ?_
  rintro v H' ⟨⟨kk, rfl, k0, k1⟩, rfl⟩
  have hw : IntKind.i64.wrap (1 + kk) = 1 + kk := wrap64 (by omega) (by omega)
  simp -implicitDefEqProofs only [hw, eqA, eqD, go_sem]
  refine CW.mono (c_withinN y 0 62 H' (by omega) (by omega) (by omega)) ?_
  rintro v H' ⟨⟨f, rfl, f0, f1⟩, rfl⟩
  obtain ⟨k, hk⟩ := Int.eq_ofNat_of_zero_le (by omega : 0 ≤ 1 + kk)
  rw [hk]
  have hk16 : k ≤ 16 := by omega
  have hz : 0 ≤ szP f := by
    unfold szP
    repeat' split
    all_goals omega
  obtain ⟨-, -, z5, -⟩ := szP_nn hz
  have hs : (szP f).toNat < 5 := by omega
  simp -implicitDefEqProofs only [eqA, eqD, go_sem]
  rw [cfg]
  refine CW.mono (c_hNew nF_cfg (by omega) (by omega)) ?_
  rintro v H0 ⟨A, rfl, hr0, s0, -⟩
  simp -implicitDefEqProofs only [Bool.false_eq_true, eqA, eqD, go_sem]
  refine WP_mono (Q := fun ex fr G => ex = .exit 0 ∧ fr.get 7 = some (.ptr (some (A.b, 0))) ∧ ∃ h, OneRow nF h (szP f).toNat 1 0 ∧ HR A nF G h) ?_ (WP_loop (fun m fr G => ∃ (t : Nat) (h : HM), m = 3 - t ∧ t ≤ 3 ∧ fr.get 5 = some (.int .i64 k) ∧ fr.get 6 = some (.int .i64 f) ∧ fr.get 7 = some (.ptr (some (A.b, 0))) ∧ fr.get 8 = some (.int .i64 t) ∧ OneRow nF h (szP f).toNat 1 0 ∧ HR A nF G h) 3 ?_ ?_)
  rotate_left
  · refine ⟨0, emptyM nF, rfl, by omega, ?_⟩
    simp -implicitDefEqProofs only [eqA, eqD, go_sem]
    exact ⟨empty_row nF nF_cfg _, hr0⟩
  · rintro m fr G ⟨t, h, hm, ht, g5, g6, g7, g8, o, hr⟩
    by_cases hlt : t < 3
    · have hlt' : (t : Int) < 3 := by omega
      have hw := wrapS hlt (by omega)
      simp -implicitDefEqProofs only [g5, g6, g7, g8, hlt', eqA, eqD, go_sem]
      refine WP_mono (Q := fun ex fr G => ex = .exit 2 ∧ fr.get 5 = some (.int .i64 k) ∧ fr.get 6 = some (.int .i64 f) ∧ fr.get 7 = some (.ptr (some (A.b, 0))) ∧ fr.get 8 = some (.int .i64 t) ∧ ∃ h, OneRow nF h (szP f).toNat 1 k ∧ HR A nF G h) ?_ (WP_loop (fun m fr G => ∃ (j : Nat) (h : HM), m = k - j ∧ j ≤ k ∧ fr.get 5 = some (.int .i64 k) ∧ fr.get 6 = some (.int .i64 f) ∧ fr.get 7 = some (.ptr (some (A.b, 0))) ∧ fr.get 8 = some (.int .i64 t) ∧ fr.get 9 = some (.int .i64 j) ∧ OneRow nF h (szP f).toNat 1 j ∧ HR A nF G h) k ?_ ?_)
      rotate_left
      · refine ⟨0, h, rfl, by omega, ?_⟩
        simp -implicitDefEqProofs only [g5, g6, g7, g8, eqA, eqD, go_sem]
        exact ⟨o, hr⟩
      · rintro m fr G1 ⟨j, h1, hm', hj, g5, g6, g7, g8, g9, o1, hr1⟩
        by_cases hjk : j < k
        · have hjk' : (j : Int) < (k : Int) := by omega
          have hw2 := wrapS hjk (by omega)
          obtain ⟨a4, o2⟩ := OneRow.alloc (c := 2) hz (by omega) (by omega) o1 (by show j < 16; omega)
          simp -implicitDefEqProofs only [g5, g6, g7, g8, g9, hjk', eqA, eqD, go_sem]
          refine CW.mono (c_Alloc hr1 (c := 2) (f := f) (by omega)) ?_
          rintro v G2 ⟨rfl, hr2, -⟩
          have hnn : ¬ (allocM h1 2 f).1 < 0 := by omega
          simp -implicitDefEqProofs only [g5, g6, g7, g8, g9, hnn, hw2, Bool.false_eq_true, eqA, eqD, go_sem]
          exact ⟨k - (j + 1), by omega, j + 1, _, rfl, by omega, rfl, o2, hr2⟩
        · obtain rfl : j = k := by omega
          simp -implicitDefEqProofs only [g5, g6, g7, g8, g9, Int.lt_irrefl, Bool.false_eq_true, eqA, eqD, go_sem]
          exact ⟨h1, o1, hr1⟩
      · rintro ex fr G1 ⟨rfl, g5, g6, g7, g8, h1, o1, hr1⟩
        obtain ⟨p1, o2⟩ := o1.flip1 hs
        obtain ⟨p2, o3, p3⟩ := o2.flip2 hs
        simp -implicitDefEqProofs only [g5, g6, g7, g8, eqA, eqD, go_sem]
        refine CW.mono (c_Flip hr1) ?_
        rintro v G2 ⟨hv, hr2, -⟩
        rw [p1] at hv
        subst hv
        simp -implicitDefEqProofs only [g5, g6, g7, g8, bne_self_eq_false, eqA, eqD, go_sem]
        refine CW.mono (c_Flip hr2) ?_
        rintro v G3 ⟨hv, hr3, -⟩
        rw [p2] at hv
        subst hv
        simp -implicitDefEqProofs only [g5, g6, g7, g8, bne_self_eq_false, eqA, eqD, go_sem]
        refine CW.mono (c_IDsH hr3) ?_
        rintro v G4 ⟨sv, s4⟩
        have hid : idsI (flipM (flipM h1).2).2.g = [] := by
          rw [List.eq_nil_iff_forall_not_mem]
          intro i hi
          have := (mem_idsN.1 hi).2.2
          rw [p3 i] at this; cases this
        rw [hid] at sv
        obtain ⟨a, s0', cl, rfl, -⟩ := sv
        have e0 : ((([] : List Int).length : Nat) : Int) = 0 := rfl
        simp -implicitDefEqProofs only [g5, g6, g7, g8, e0, hw, bne_self_eq_false, Bool.false_eq_true, eqA, eqD, go_sem]
        exact ⟨3 - (t + 1), by omega, t + 1, _, rfl, by omega, rfl, o3, (hr3.evoS s4).1⟩
    · obtain rfl : t = 3 := by omega
      have e3 : ¬ ((3 : Nat) : Int) < 3 := by omega
      simp -implicitDefEqProofs only [g5, g6, g7, g8, e3, Int.lt_irrefl, Bool.false_eq_true, eqA, eqD, go_sem]
      exact ⟨h, o, hr⟩
  · rintro ex fr G ⟨rfl, g7, h, o, hr⟩
    have hg : greyM h = none := greyM_of_none fun t ht => o.no t 2 ht (by omega) (by omega) (.inr (by omega))
    simp -implicitDefEqProofs only [g7, eqA, eqD, go_sem]
    refine CW.mono (c_Done hr) ?_
    rintro v G' ⟨rfl, rfl⟩
    rw [hg]
    simp -implicitDefEqProofs only [Option.isNone_none, eqA, eqD, go_sem]
    refine CW.mono c_known9 ?_
    rintro v G2 rfl
    simp -implicitDefEqProofs only [eqA, eqD, go_sem]
end
end Go.Proofs.Ytaihjlemofgokaa.AA
