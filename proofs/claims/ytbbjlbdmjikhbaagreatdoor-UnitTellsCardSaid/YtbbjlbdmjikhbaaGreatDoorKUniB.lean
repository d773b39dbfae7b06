/- Methods; unit.Right. -/
import Derived.Test.YtbbjlbdmjikhbaaGreatDoorKUniA
set_option linter.unusedSimpArgs false
set_option linter.unusedVariables false
namespace Go.Proofs.YtbbjlbdmjikhbaaGreatDoor.AA
open Go Go.RowKit
attribute [local go_sem ↓] WP_seq WP_skip WP_region WP_dregion WP_cond WP_block WP_exit WP_ret OW_nil OW_cons DW_nil DW_cons XW_call reduceIte OW_guard DW_guard
attribute [local go_sem] XW exA KO_eq OptK_some EvK_some GW2_true GW2_false KS_normal KS_ret KS_exit KB_normal KB_ret KB_exit CP2_bool RP_ret putA_some putA_none ev_t ev_c evs evo wantA initA resA Tr.get_set vl chkOk cond_true cond_false Nat.add_zero Nat.mul_one Nat.one_mul Nat.zero_add Nat.zero_mul aggOf pInt binA unA intA beq_true beq_false Bool.not_true Bool.not_false Bool.not_eq_true and_self and_true true_and reduceIte Nat.reduceEqDiff Nat.succ_ne_self Nat.reduceAdd Nat.reduceMul Nat.reduceSub Nat.reduceBEq Nat.reduceLT Nat.reduceLeDiff Int.cast_ofNat_Int Int.reduceToNat Int.reduceLT Int.reduceLE Int.reduceGE Int.reduceGT Int.reduceEq Int.reduceNe Int.reduceAdd Int.reduceSub Int.reduceNeg decide_true decide_false Int.toNat_natCast reduceCtorEq List.nil_append List.cons_append AV.boxy AV.cells List.length_cons List.length_nil Nat.beq_refl AOp.cl KDW_0 KDW_1 KDW_2 OWskip_eq DWskip_eq fillA setAt DChk DAt stepA ble_dec beq_dec Bool.and_self Bool.and_true Bool.true_and Bool.and_false Bool.false_and List.take_succ_cons List.take_zero List.drop_succ_cons List.drop_zero List.take_nil List.drop_nil List.append_nil eqAV eqAVL BEq.rfl sameS Option.map Option.isNone wrap64 gt_iff_lt ge_iff_le Int.lt_irrefl Int.le_refl
set_option maxRecDepth 100000
set_option maxHeartbeats 4000000
attribute [local irreducible] Tr.set
def shortP (m : UMethod) : Bool := decide (m.code.length ≤ 128 ∧ m.lits.length ≤ 16 ∧ 0 ≤ m.args ∧ 0 ≤ m.temps ∧ m.args ≤ 8 ∧ m.temps ≤ 8 - m.args)
def endsP (m : UMethod) : Bool := decide (2 ≤ m.code.length ∧ m.code.length % 2 = 0 ∧ (m.code.getD (m.code.length - 2) 0 = 14 ∨ m.code.getD (m.code.length - 2) 0 = 19 ∨ m.code.getD (m.code.length - 2) 0 = 16))
def litP (u : UUnit) (v : Pr2) : Bool :=
 if v.1 = 3 then decide (-1073741824 ≤ v.2 ∧ v.2 ≤ 1073741823)
 else if v.1 = 5 then decide (0 ≤ v.2 ∧ v.2 < u.names.length)
 else if v.1 = 6 then decide (0 ≤ v.2 ∧ v.2 < u.classes.length)
 else if v.1 = 7 then decide (0 ≤ v.2 ∧ v.2 < u.methods.length)
 else false
def codeAt (m : UMethod) (i : Nat) : Bool := instP m (m.code.getD (2 * i) 0) (m.code.getD (2 * i + 1) 0) (2 * i)
def codeP (m : UMethod) : Bool := (List.range (m.code.length / 2)).all (codeAt m)
def methodP (u : UUnit) (m : UMethod) : Int := if shortP m = false then 3 else if endsP m && m.lits.all (litP u) && codeP m then 0 else 12
theorem c_short {H : AHeap} {m : UMethod} {cs : List AV} (h : MeE H m cs) : CW MN 92 [.agg cs] H fun u H' => u = .bool (shortP m) ∧ Sm H H' := by
 refine CW_of (fn := af92) rfl ?_
 dsimp only [af92, qm, q, qG, qn, qi, qb, qB, qk, qc, qo, qg, qv, qr]
 obtain ⟨wl, wc, bm, rfl⟩ := BoxM.of h
 have s1 := Chg.newRow H [.int .i64 m.args, .int .i64 m.temps, wl, wc]
 generalize eH1 : H.newRow [.int .i64 m.args, .int .i64 m.temps, wl, wc] = H1 at bm s1
 obtain ⟨a, s0, cl, rfl, -⟩ := bm.code.shape
 obtain ⟨a', s0', cl', rfl, -⟩ := bm.lits.shape
 have l0 := bm.l0; have l1 := bm.l1; have l2 := bm.l2; have l3 := bm.l3
 by_cases c1 : m.code.length ≤ 128
 ·have c1' : (m.code.length : Int) ≤ 128 := by omega
  by_cases c2 : m.lits.length ≤ 16
  ·have c2' : (m.lits.length : Int) ≤ 16 := by omega
   by_cases c3 : 0 ≤ m.args
   ·by_cases c4 : 0 ≤ m.temps
    ·by_cases c5 : m.args ≤ 8
     ·have w : IntKind.i64.wrap (8 - m.args) = 8 - m.args := wrap64 (by omega) (by omega)
      simp -implicitDefEqProofs only [eH1, l0, l1, l2, l3, c1', c2', c3, c4, c5, w, go_sem]
      exact ⟨by simp [shortP, c1, c2, c3, c4, c5], s1⟩
     ·simp -implicitDefEqProofs only [eH1, l0, l1, l2, l3, c1', c2', c3, c4, c5, Bool.false_eq_true, go_sem]
      exact ⟨by simp [shortP, c5], s1⟩
    ·simp -implicitDefEqProofs only [eH1, l0, l1, l2, l3, c1', c2', c3, c4, Bool.false_eq_true, go_sem]
     exact ⟨by simp [shortP, c4], s1⟩
   ·simp -implicitDefEqProofs only [eH1, l0, l1, l2, l3, c1', c2', c3, Bool.false_eq_true, go_sem]
    exact ⟨by simp [shortP, c3], s1⟩
  ·have c2' : ¬ (m.lits.length : Int) ≤ 16 := by omega
   simp -implicitDefEqProofs only [eH1, l0, l1, l2, l3, c1', c2', Bool.false_eq_true, go_sem]
   exact ⟨by simp [shortP, c2], s1⟩
 ·have c1' : ¬ (m.code.length : Int) ≤ 128 := by omega
  simp -implicitDefEqProofs only [eH1, l0, l1, l2, l3, c1', Bool.false_eq_true, go_sem]
  exact ⟨by simp [shortP, c1], s1⟩
theorem c_ends {H : AHeap} {m : UMethod} {cs : List AV} (h : MeE H m cs) (h2 : m.code.length ≤ 128) : CW MN 93 [.agg cs] H fun u H' => u = .bool (endsP m) ∧ Sm H H' := by
 refine CW_of (fn := af93) rfl ?_
 dsimp only [af93, qm, q, qG, qn, qi, qb, qB, qk, qc, qo, qg, qv, qr]
 obtain ⟨wl, wc, bm, rfl⟩ := BoxM.of h
 have s1 := Chg.newRow H [.int .i64 m.args, .int .i64 m.temps, wl, wc]
 generalize eH1 : H.newRow [.int .i64 m.args, .int .i64 m.temps, wl, wc] = H1 at bm s1
 obtain ⟨a, s0, cl, rfl, -⟩ := bm.code.shape
 have l3 := bm.l3
 by_cases c1 : 2 ≤ m.code.length
 ·have c1' : ¬ (m.code.length : Int) < 2 := by omega
  by_cases c2 : m.code.length % 2 = 0
  ·have pm : (((m.code.length : Int).tmod 2) != 0) = false := by
    rw [Int.tmod_eq_emod_of_nonneg (by omega)]; simp; omega
   have w : IntKind.i64.wrap ((m.code.length : Int) - 2) = ((m.code.length - 2 : Nat) : Int) := by rw [wrap64 (by omega) (by omega)]; omega
   have p0 : (0 : Int) ≤ ((m.code.length - 2 : Nat) : Int) := by omega
   have p1 : ((m.code.length - 2 : Nat) : Int) < (m.code.length : Int) := by omega
   obtain ⟨x, o, rfl, rfl, ld, hy, hx⟩ := ByE.at bm.code (i := m.code.length - 2) (by omega)
   have hg : m.code.getD (m.code.length - 2) 0 = m.code[m.code.length - 2] := by rw [List.getD_eq_getElem?_getD, List.getElem?_eq_getElem (by omega)]; rfl
   have he : endsP m = decide (m.code[m.code.length - 2] = 14 ∨ m.code[m.code.length - 2] = 19 ∨ m.code[m.code.length - 2] = 16) := by simp only [endsP, c1, c2, hg, true_and]
   generalize m.code[m.code.length - 2] = y at ld hy he
   have w3 := conv8 hy
   by_cases d1 : y = 14
   ·have d1' : ((y : Int) == 14) = true := by simp [d1]
    simp -implicitDefEqProofs only [eH1, l3, c1', pm, w, p0, p1, ld, cI, w3, d1', Bool.false_eq_true, go_sem]
    exact ⟨by rw [he]; simp [d1], s1⟩
   ·have d1' : ((y : Int) == 14) = false := by simp; omega
    by_cases d2 : y = 19
    ·have d2' : ((y : Int) == 19) = true := by simp [d2]
     simp -implicitDefEqProofs only [eH1, l3, c1', pm, w, p0, p1, ld, cI, w3, d1', d2', Bool.false_eq_true, go_sem]
     exact ⟨by rw [he]; simp [d2], s1⟩
    ·have d2' : ((y : Int) == 19) = false := by simp; omega
     by_cases d3 : y = 16
     ·have d3' : ((y : Int) == 16) = true := by simp [d3]
      simp -implicitDefEqProofs only [eH1, l3, c1', pm, w, p0, p1, ld, cI, w3, d1', d2', d3', Bool.false_eq_true, go_sem]
      exact ⟨by rw [he]; simp [d3], s1⟩
     ·have d3' : ((y : Int) == 16) = false := by simp; omega
      simp -implicitDefEqProofs only [eH1, l3, c1', pm, w, p0, p1, ld, cI, w3, d1', d2', d3', Bool.false_eq_true, go_sem]
      exact ⟨by rw [he]; simp [d1, d2, d3], s1⟩
  ·have pm : (((m.code.length : Int).tmod 2) != 0) = true := by
    rw [Int.tmod_eq_emod_of_nonneg (by omega)]; simp; omega
   simp -implicitDefEqProofs only [eH1, l3, c1', pm, Bool.false_eq_true, go_sem]
   exact ⟨by simp [endsP, c2], s1⟩
 ·have c1' : (m.code.length : Int) < 2 := by omega
  simp -implicitDefEqProofs only [eH1, l3, c1', go_sem]
  exact ⟨by simp [endsP, c1], s1⟩
theorem c_lit {H : AHeap} {u : UUnit} {cu : List AV} (h : UnE H u cu) (v : Pr2) : CW MN 95 [.agg (prC v), .agg cu] H fun w H' => w = .bool (litP u v) ∧ Sm H H' := by
 refine CW_of (fn := af95) rfl ?_
 dsimp only [af95, qm, q, qG, qn, qi, qb, qB, qk, qc, qo, qg, qv, qr]
 have s1 := Chg.newRow H (prC v)
 have r1 := Rd.newRow H (prC v)
 generalize eH1 : H.newRow (prC v) = H1 at r1 s1
 obtain ⟨v1, v2, v3, v4, bu, rfl⟩ := BoxU.of (MonoE.un _ _ _ _ h s1)
 have s2 := Chg.newRow H1 [v1, v2, v3, v4, .int .i64 u.main]
 generalize eH2 : H1.newRow [v1, v2, v3, v4, .int .i64 u.main] = H2 at bu s2
 have r2 := r1.keep (H' := H2) s2.1 (s2.gt r1.1)
 obtain ⟨a1, z1, c1, rfl, -⟩ := bu.names.shape
 obtain ⟨a2, z2, c2, rfl, -⟩ := bu.classes.shape
 obtain ⟨a3, z3, c3, rfl, -⟩ := bu.methods.shape
 have l0 := r2.one (j := 0) rfl
 have l1 := r2.one (j := 1) rfl
 rw [Nat.zero_add] at l0 l1
 have n0 := bu.l0; have n1 := bu.l1; have n2 := bu.l2
 have s12 := s1.trans s2
 obtain ⟨k, n⟩ := v
 simp only [iv] at l0 l1
 by_cases k3 : k = 3
 ·subst k3
  by_cases h1 : -1073741824 ≤ n
  ·simp -implicitDefEqProofs only [eH1, eH2, l0, l1, h1, Int.reduceBEq, go_sem]
   exact ⟨by simp [litP, h1], s12⟩
  ·simp -implicitDefEqProofs only [eH1, eH2, l0, l1, h1, Int.reduceBEq, Bool.false_eq_true, go_sem]
   exact ⟨by simp [litP, h1], s12⟩
 ·have k3' : (k == 3) = false := by simpa using k3
  by_cases k5 : k = 5
  ·subst k5
   by_cases h1 : 0 ≤ n
   ·simp -implicitDefEqProofs only [eH1, eH2, l0, l1, n0, h1, Int.reduceBEq, Bool.false_eq_true, go_sem]
    exact ⟨by simp [litP, h1], s12⟩
   ·simp -implicitDefEqProofs only [eH1, eH2, l0, l1, n0, h1, Int.reduceBEq, Bool.false_eq_true, go_sem]
    exact ⟨by simp [litP, h1], s12⟩
  ·have k5' : (k == 5) = false := by simpa using k5
   by_cases k6 : k = 6
   ·subst k6
    by_cases h1 : 0 ≤ n
    ·simp -implicitDefEqProofs only [eH1, eH2, l0, l1, n1, h1, Int.reduceBEq, Bool.false_eq_true, go_sem]
     exact ⟨by simp [litP, h1], s12⟩
    ·simp -implicitDefEqProofs only [eH1, eH2, l0, l1, n1, h1, Int.reduceBEq, Bool.false_eq_true, go_sem]
     exact ⟨by simp [litP, h1], s12⟩
   ·have k6' : (k == 6) = false := by simpa using k6
    by_cases k7 : k = 7
    ·subst k7
     by_cases h1 : 0 ≤ n
     ·simp -implicitDefEqProofs only [eH1, eH2, l0, l1, n2, h1, Int.reduceBEq, Bool.false_eq_true, go_sem]
      exact ⟨by simp [litP, h1], s12⟩
     ·simp -implicitDefEqProofs only [eH1, eH2, l0, l1, n2, h1, Int.reduceBEq, Bool.false_eq_true, go_sem]
      exact ⟨by simp [litP, h1], s12⟩
    ·have k7' : (k == 7) = false := by simpa using k7
     simp -implicitDefEqProofs only [eH1, eH2, l0, l1, k3', k5', k6', k7', Bool.false_eq_true, go_sem]
     exact ⟨by simp [litP, k3, k5, k6, k7], s12⟩
theorem c_number {H : AHeap} (n : Int) : CW MN 111 [.int .i64 n] H fun w H' => w = .bool (decide (-1073741824 ≤ n ∧ n ≤ 1073741823)) ∧ H' = H := by
 refine CW_of (fn := af111) rfl ?_
 dsimp only [af111, qm, q, qG, qn, qi, qb, qB, qk, qc, qo, qg, qv, qr]
 by_cases h1 : -1073741824 ≤ n
 ·simp -implicitDefEqProofs only [h1, go_sem]
 ·simp -implicitDefEqProofs only [h1, false_and, decide_false, Bool.false_eq_true, go_sem]
theorem c_rliteral {H : AHeap} {u : UUnit} {cu : List AV} (h : UnE H u cu) (v : Pr2) : CW MN 107 [.agg (prC v), .agg cu] H fun w H' => w = .bool (litP u v) ∧ Sm H H' := by
 refine CW_of (fn := af107) rfl ?_
 dsimp only [af107, qm, q, qG, qn, qi, qb, qB, qk, qc, qo, qg, qv, qr]
 have s1 := Chg.newRow H (prC v)
 have r1 := Rd.newRow H (prC v)
 generalize eH1 : H.newRow (prC v) = H1 at r1 s1
 obtain ⟨v1, v2, v3, v4, bu, rfl⟩ := BoxU.of (MonoE.un _ _ _ _ h s1)
 have s2 := Chg.newRow H1 [v1, v2, v3, v4, .int .i64 u.main]
 generalize eH2 : H1.newRow [v1, v2, v3, v4, .int .i64 u.main] = H2 at bu s2
 have r2 := r1.keep (H' := H2) s2.1 (s2.gt r1.1)
 obtain ⟨a1, z1, c1, rfl, -⟩ := bu.names.shape
 obtain ⟨a2, z2, c2, rfl, -⟩ := bu.classes.shape
 obtain ⟨a3, z3, c3, rfl, -⟩ := bu.methods.shape
 have l0 := r2.one (j := 0) rfl
 have l1 := r2.one (j := 1) rfl
 rw [Nat.zero_add] at l0 l1
 have n0 := bu.l0; have n1 := bu.l1; have n2 := bu.l2
 have s12 := s1.trans s2
 obtain ⟨k, n⟩ := v
 simp only [iv] at l0 l1
 by_cases k3 : k = 3
 ·subst k3
  simp -implicitDefEqProofs only [eH1, eH2, l0, l1, Int.reduceBEq, go_sem]
  refine CW.mono (c_number n) ?_
  rintro w H3 ⟨rfl, rfl⟩
  simp -implicitDefEqProofs only [go_sem]
  exact ⟨by simp [litP], s12⟩
 ·have k3' : (k == 3) = false := by simpa using k3
  by_cases k5 : k = 5
  ·subst k5
   by_cases h1 : 0 ≤ n
   ·simp -implicitDefEqProofs only [eH1, eH2, l0, l1, n0, h1, Int.reduceBEq, Bool.false_eq_true, go_sem]
    exact ⟨by simp [litP, h1], s12⟩
   ·simp -implicitDefEqProofs only [eH1, eH2, l0, l1, n0, h1, Int.reduceBEq, Bool.false_eq_true, go_sem]
    exact ⟨by simp [litP, h1], s12⟩
  ·have k5' : (k == 5) = false := by simpa using k5
   by_cases k6 : k = 6
   ·subst k6
    by_cases h1 : 0 ≤ n
    ·simp -implicitDefEqProofs only [eH1, eH2, l0, l1, n1, h1, Int.reduceBEq, Bool.false_eq_true, go_sem]
     exact ⟨by simp [litP, h1], s12⟩
    ·simp -implicitDefEqProofs only [eH1, eH2, l0, l1, n1, h1, Int.reduceBEq, Bool.false_eq_true, go_sem]
     exact ⟨by simp [litP, h1], s12⟩
   ·have k6' : (k == 6) = false := by simpa using k6
    by_cases k7 : k = 7
    ·subst k7
     by_cases h1 : 0 ≤ n
     ·simp -implicitDefEqProofs only [eH1, eH2, l0, l1, n2, h1, Int.reduceBEq, Bool.false_eq_true, go_sem]
      exact ⟨by simp [litP, h1], s12⟩
     ·simp -implicitDefEqProofs only [eH1, eH2, l0, l1, n2, h1, Int.reduceBEq, Bool.false_eq_true, go_sem]
      exact ⟨by simp [litP, h1], s12⟩
    ·have k7' : (k == 7) = false := by simpa using k7
     simp -implicitDefEqProofs only [eH1, eH2, l0, l1, k3', k5', k6', k7', Bool.false_eq_true, go_sem]
     exact ⟨by simp [litP, k3, k5, k6, k7], s12⟩
set_option maxHeartbeats 4000000
theorem codeAt_nat {m : UMethod} {pc : Nat} (hp : pc % 2 = 0) (hl : pc + 1 < m.code.length) : codeAt m (pc / 2) = instP m m.code[pc] m.code[pc + 1] pc := by
 have e : 2 * (pc / 2) = pc := by omega
 unfold codeAt
 rw [e]
 have e1 : m.code.getD pc 0 = m.code[pc] := by rw [List.getD_eq_getElem?_getD, List.getElem?_eq_getElem (by omega)]; rfl
 have e2 : m.code.getD (pc + 1) 0 = m.code[pc + 1] := by rw [List.getD_eq_getElem?_getD, List.getElem?_eq_getElem hl]; rfl
 rw [e1, e2]
theorem codeP_bad {m : UMethod} {pc : Nat} (hp : pc % 2 = 0) (hl : pc + 1 < m.code.length) (h : instP m m.code[pc] m.code[pc + 1] pc = false) : codeP m = false :=
 List.all_eq_false.2 ⟨pc / 2, List.mem_range.2 (by omega), by rw [codeAt_nat hp hl, h]; simp⟩
theorem codeP_all {m : UMethod} (h : ∀ i, i < m.code.length / 2 → codeAt m i = true) : codeP m = true :=
 List.all_eq_true.2 fun i hi => h i (List.mem_range.1 hi)
theorem shortP_m {m : UMethod} (h : shortP m = true) : m.code.length ≤ 128 ∧ 0 ≤ m.args ∧ m.args ≤ 8 ∧ 0 ≤ m.temps ∧ m.temps ≤ 8 := by
 simp only [shortP, decide_eq_true_eq] at h
 omega
theorem endsP_even {m : UMethod} (h : endsP m = true) : m.code.length % 2 = 0 := by
 simp only [endsP, decide_eq_true_eq] at h
 exact h.2.1
theorem c_codeRight1 {H : AHeap} {u : UUnit} {b : Nat} {v1 v2 v3 v4 : AV} (bu : BoxU H u b v1 v2 v3 v4) (v : Pr2) : CW MN 94 [.agg (prC v), .ptr (some (b, 0))] H fun w H' => w = .bool (!litP u v) ∧ Sm H H' := by
 refine CW_of (fn := af94) rfl ?_
 dsimp only [af94, qm, q, qG, qn, qi, qb, qB, qk, qc, qo, qg, qv, qr]
 have s1 := Chg.newRow H (prC v)
 have l1 := (Rd.newRow H (prC v)).load (n := 2) rfl
 have bu1 := bu.sm s1
 generalize eH1 : H.newRow (prC v) = H1 at l1 s1 bu1
 have la := bu1.all
 simp -implicitDefEqProofs only [eH1, l1, la, go_sem]
 refine CW.mono (c_lit bu1.un v) ?_
 rintro w H2 ⟨rfl, s2⟩
 simp -implicitDefEqProofs only [go_sem]
 exact s1.trans s2
theorem c_codeRight {H : AHeap} {u : UUnit} {cu : List AV} (hu : UnE H u cu) {m : UMethod} {cs : List AV} (h : MeE H m cs) : CW MN 69 [.agg cs, .agg cu] H fun w H' => w = .int .i64 (methodP u m) ∧ Sm H H' := by
 refine CW_of (fn := af69) rfl ?_
 dsimp only [af69, qm, q, qG, qn, qi, qb, qB, qk, qc, qo, qg, qv, qr]
 obtain ⟨wl, wc, bm, rfl⟩ := BoxM.of h
 have s1 := Chg.newRow H [.int .i64 m.args, .int .i64 m.temps, wl, wc]
 have hn1 : (H.newRow [.int .i64 m.args, .int .i64 m.temps, wl, wc]).next = H.next + 1 := rfl
 generalize eH1 : H.newRow [.int .i64 m.args, .int .i64 m.temps, wl, wc] = H1 at bm s1 hn1
 obtain ⟨v1, v2, v3, v4, bu, rfl⟩ := BoxU.of (MonoE.un _ _ _ _ hu s1)
 have s2 := Chg.newRow H1 [v1, v2, v3, v4, .int .i64 u.main]
 generalize eH2 : H1.newRow [v1, v2, v3, v4, .int .i64 u.main] = H2 at bu s2
 have bm := bm.sm s2
 obtain ⟨a, s0, cl, rfl, -⟩ := bm.code.shape
 obtain ⟨a', s0', cl', rfl, -⟩ := bm.lits.shape
 have mm := bm.all
 have s12 := s1.trans s2
 simp -implicitDefEqProofs only [eH1, eH2, mm, go_sem]
 refine CW.mono (c_short bm.me) ?_
 rintro w H3 ⟨rfl, s3⟩
 have s13 := s12.trans s3
 cases hs : shortP m with
 | false =>
  simp -implicitDefEqProofs only [go_sem]
  exact ⟨by simp [methodP, hs], s13⟩
 | true =>
  obtain ⟨hcl, ma⟩ := shortP_m hs
  have bm := bm.sm s3
  have bu := bu.sm s3
  have mm := bm.all
  simp -implicitDefEqProofs only [mm, Bool.false_eq_true, go_sem]
  refine CW.mono (c_ends bm.me hcl) ?_
  rintro w H4 ⟨rfl, s4⟩
  have s14 := s13.trans s4
  cases he : endsP m with
  | false =>
   simp -implicitDefEqProofs only [Bool.false_eq_true, go_sem]
   exact ⟨by simp [methodP, hs, he], s14⟩
  | true =>
   have heven := endsP_even he
   have bm := bm.sm s4
   have bu := bu.sm s4
   have ml := bm.l2
   simp -implicitDefEqProofs only [ml, Bool.false_eq_true, go_sem]
   refine CW.mono (c_contF (f := 101) (f' := 72) (s := 2) rfl rfl MonoE.enc bm.lits (p := fun v => !litP u v) ?_) ?_
   ·rintro j hj r G s ⟨rfl, -⟩ -
    exact c_codeRight1 (bu.sm s) _
   rintro w H5 ⟨rfl, s5⟩
   have s15 := s14.trans s5
   have bm := bm.sm s5
   cases hl : m.lits.any fun v => !litP u v with
   | true =>
    have hl' : m.lits.all (litP u) = false := by
     rw [List.any_eq_true] at hl
     obtain ⟨x, hx, hb⟩ := hl
     exact List.all_eq_false.2 ⟨x, hx, by simpa using hb⟩
    simp -implicitDefEqProofs only [Bool.false_eq_true, go_sem]
    exact ⟨by simp only [methodP, hs, he, hl', Bool.and_false, Bool.false_and, Bool.false_eq_true, if_false, Bool.true_eq_false], s15⟩
   | false =>
    have hl' : m.lits.all (litP u) = true := by
     rw [List.any_eq_false] at hl
     exact List.all_eq_true.2 fun x hx => by simpa using hl x hx
    have hres : methodP u m = if codeP m then 0 else 12 := by simp only [methodP, hs, he, hl', Bool.true_and, Bool.and_true, Bool.true_eq_false, if_false]
    simp -implicitDefEqProofs only [Bool.false_eq_true, go_sem]
    refine WP_loop (fun k fr H' => ∃ pc : Nat, k = m.code.length - pc ∧ pc ≤ m.code.length ∧ pc % 2 = 0 ∧ (∀ i, i < pc / 2 → codeAt m i = true) ∧ fr.get 2 = some (.ptr (some (H.next, 0))) ∧ fr.get 5 = some (.int .i64 pc) ∧ Sm H H' ∧ BoxM H' m [.int .i64 m.args, .int .i64 m.temps, .slice a' s0' m.lits.length cl', .slice a s0 m.code.length cl] H.next (.slice a' s0' m.lits.length cl') (.slice a s0 m.code.length cl)) m.code.length ?_ ?_
    ·refine ⟨0, rfl, by omega, rfl, fun i hi => by omega, ?_⟩
     simp -implicitDefEqProofs only [go_sem]
     exact ⟨s15, bm⟩
    ·rintro k fr H6 ⟨pc, hk, hpc, hev, hall, g2, g5, s6, bm6⟩
     have mc := bm6.l3
     by_cases hlt : pc < m.code.length
     ·have hlt' : (pc : Int) < (m.code.length : Int) := by omega
      have hpl : pc + 1 < m.code.length := by omega
      have mm := bm6.all
      have hw : IntKind.i64.wrap ((pc : Int) + 2) = ((pc + 2 : Nat) : Int) := by rw [wrap64 (by omega) (by omega)]; omega
      have hy : m.code[pc] < 256 := by
       obtain ⟨x, o, -, -, -, hy, -⟩ := ByE.at bm6.code (i := pc) (by omega)
       exact hy
      have ha : m.code[pc + 1] < 256 := by
       obtain ⟨x, o, -, -, -, hy, -⟩ := ByE.at bm6.code hpl
       exact hy
      simp -implicitDefEqProofs only [g2, g5, mc, mm, hlt', go_sem]
      refine CW.mono (c_fetch bm6.me pc hev hpl (by omega)) ?_
      rintro w H7 ⟨rfl, s7⟩
      obtain ⟨H8, q1, q2, s8, r8⟩ := store_new H7 [.int .i64 0, .int .i64 0] [.int .i64 (m.code[pc] : Int), .int .i64 (m.code[pc + 1] : Int)] rfl
      have l8 := r8.load (n := 2) rfl
      have s78 := s7.trans s8
      have bm8 := bm6.sm s78
      have mm := bm8.all
      simp -implicitDefEqProofs only [g2, g5, at0, at1, q1, l8, mm, Bool.false_eq_true, go_sem]
      refine CW.mono (c_inst bm8.me hy ha (by omega) ma) ?_
      rintro w H9 ⟨rfl, s9⟩
      have s69 := s78.trans s9
      cases hi : instP m m.code[pc] m.code[pc + 1] pc with
      | false =>
       simp -implicitDefEqProofs only [go_sem]
       exact ⟨by rw [hres, codeP_bad hev hpl hi]; rfl, s6.trans s69⟩
      | true =>
       simp -implicitDefEqProofs only [g2, g5, hw, Bool.false_eq_true, go_sem]
       refine ⟨m.code.length - (pc + 2), by omega, pc + 2, rfl, by omega, by omega, fun i hi' => ?_, rfl, s6.trans s69, bm6.sm s69⟩
       by_cases e : i = pc / 2
       ·subst e; rw [codeAt_nat hev hpl, hi]
       ·exact hall i (by omega)
     ·have hlt' : ¬ (pc : Int) < (m.code.length : Int) := by omega
      have := codeP_all fun i hi => hall i (by omega)
      simp -implicitDefEqProofs only [g2, g5, mc, hlt', Bool.false_eq_true, go_sem]
      exact ⟨by rw [hres, this]; rfl, s6⟩
theorem c_rMethod {H : AHeap} {u : UUnit} {cu : List AV} (hu : UnE H u cu) {m : UMethod} {cs : List AV} (h : MeE H m cs) : CW MN 78 [.agg cs, .agg cu] H fun w H' => w = .int .i64 (methodP u m) ∧ Sm H H' := by
 refine CW_of (fn := af78) rfl ?_
 dsimp only [af78, qm, q, qG, qn, qi, qb, qB, qk, qc, qo, qg, qv, qr]
 obtain ⟨wl, wc, bm, rfl⟩ := BoxM.of h
 have s1 := Chg.newRow H [.int .i64 m.args, .int .i64 m.temps, wl, wc]
 have hn1 : (H.newRow [.int .i64 m.args, .int .i64 m.temps, wl, wc]).next = H.next + 1 := rfl
 generalize eH1 : H.newRow [.int .i64 m.args, .int .i64 m.temps, wl, wc] = H1 at bm s1 hn1
 obtain ⟨v1, v2, v3, v4, bu, rfl⟩ := BoxU.of (MonoE.un _ _ _ _ hu s1)
 have s2 := Chg.newRow H1 [v1, v2, v3, v4, .int .i64 u.main]
 have hn2 : (H1.newRow [v1, v2, v3, v4, .int .i64 u.main]).next = H1.next + 1 := rfl
 generalize eH2 : H1.newRow [v1, v2, v3, v4, .int .i64 u.main] = H2 at bu s2 hn2
 have bm := bm.sm s2
 obtain ⟨a, s0, cl, rfl, -⟩ := bm.code.shape
 obtain ⟨a', s0', cl', rfl, -⟩ := bm.lits.shape
 have s12 := s1.trans s2
 have l0 := bm.l0; have l1 := bm.l1; have l2 := bm.l2; have l3 := bm.l3
 cases hs : shortP m with
 | false =>
  have hr : methodP u m = 3 := by simp [methodP, hs]
  have hs' : ¬ (m.code.length ≤ 128 ∧ m.lits.length ≤ 16 ∧ 0 ≤ m.args ∧ 0 ≤ m.temps ∧ m.args ≤ 8 ∧ m.temps ≤ 8 - m.args) := by simpa [shortP] using hs
  by_cases c1 : (128 : Int) < (m.code.length : Int)
  ·simp -implicitDefEqProofs only [eH1, eH2, l3, c1, hr, go_sem]
   exact s12
  ·by_cases c2 : (16 : Int) < (m.lits.length : Int)
   ·simp -implicitDefEqProofs only [eH1, eH2, l2, l3, c1, c2, hr, Bool.false_eq_true, go_sem]
    exact s12
   ·by_cases c3 : m.args < 0
    ·simp -implicitDefEqProofs only [eH1, eH2, l0, l2, l3, c1, c2, c3, hr, Bool.false_eq_true, go_sem]
     exact s12
    ·by_cases c4 : m.temps < 0
     ·simp -implicitDefEqProofs only [eH1, eH2, l0, l1, l2, l3, c1, c2, c3, c4, hr, Bool.false_eq_true, go_sem]
      exact s12
     ·by_cases c5 : 8 < m.args
      ·simp -implicitDefEqProofs only [eH1, eH2, l0, l1, l2, l3, c1, c2, c3, c4, c5, hr, Bool.false_eq_true, go_sem]
       exact s12
      ·have w : IntKind.i64.wrap (8 - m.args) = 8 - m.args := wrap64 (by omega) (by omega)
       have c6 : 8 - m.args < m.temps := by omega
       simp -implicitDefEqProofs only [eH1, eH2, l0, l1, l2, l3, c1, c2, c3, c4, c5, w, c6, hr, Bool.false_eq_true, go_sem]
       exact s12
 | true =>
  obtain ⟨hcl, ma⟩ := shortP_m hs
  have hs' : m.code.length ≤ 128 ∧ m.lits.length ≤ 16 ∧ 0 ≤ m.args ∧ 0 ≤ m.temps ∧ m.args ≤ 8 ∧ m.temps ≤ 8 - m.args := by simpa [shortP] using hs
  have c1 : ¬ (128 : Int) < (m.code.length : Int) := by omega
  have c2 : ¬ (16 : Int) < (m.lits.length : Int) := by omega
  have c3 : ¬ m.args < 0 := by omega
  have c4 : ¬ m.temps < 0 := by omega
  have c5 : ¬ 8 < m.args := by omega
  have w : IntKind.i64.wrap (8 - m.args) = 8 - m.args := wrap64 (by omega) (by omega)
  have c6 : ¬ 8 - m.args < m.temps := by omega
  have hres : methodP u m = if endsP m && m.lits.all (litP u) && codeP m then 0 else 12 := by simp only [methodP, hs, Bool.true_eq_false, if_false]
  by_cases d1 : m.code.length < 2
  ·have d1' : (m.code.length : Int) < 2 := by omega
   have he : endsP m = false := by simp [endsP]; omega
   rw [he] at hres
   simp -implicitDefEqProofs only [eH1, eH2, l0, l1, l2, l3, c1, c2, c3, c4, c5, w, c6, d1', hres, Bool.false_and, Bool.false_eq_true, go_sem]
   exact s12
  ·have d1' : ¬ (m.code.length : Int) < 2 := by omega
   by_cases d2 : m.code.length % 2 = 0
   ·have pm : (((m.code.length : Int).tmod 2) != 0) = false := by
     rw [Int.tmod_eq_emod_of_nonneg (by omega)]; simp; omega
    have w2 : IntKind.i64.wrap ((m.code.length : Int) - 2) = ((m.code.length - 2 : Nat) : Int) := by rw [wrap64 (by omega) (by omega)]; omega
    have p0 : (0 : Int) ≤ ((m.code.length - 2 : Nat) : Int) := by omega
    have p1 : ((m.code.length - 2 : Nat) : Int) < (m.code.length : Int) := by omega
    obtain ⟨x, o, rfl, rfl, ld, hy, hx⟩ := ByE.at bm.code (i := m.code.length - 2) (by omega)
    have hg : m.code.getD (m.code.length - 2) 0 = m.code[m.code.length - 2] := by rw [List.getD_eq_getElem?_getD, List.getElem?_eq_getElem (by omega)]; rfl
    have he : endsP m = decide (m.code[m.code.length - 2] = 14 ∨ m.code[m.code.length - 2] = 19 ∨ m.code[m.code.length - 2] = 16) := by
     have : 2 ≤ m.code.length := by omega
     simp only [endsP, this, d2, hg, true_and]
    generalize m.code[m.code.length - 2] = y at ld hy he
    have w3 := conv8 hy
    have parts : (y = 14 ∨ y = 19 ∨ y = 16) ∨ (y ≠ 14 ∧ y ≠ 19 ∧ y ≠ 16) := by omega
    rcases parts with hyy | ⟨y1, y2, y3⟩
    ·have he1 : endsP m = true := by rw [he]; simpa using hyy
     clear he
     have pass : ((y : Int) != 14) = false ∨ ((y : Int) != 14) = true ∧ ((y : Int) != 19) = false ∨ ((y : Int) != 14) = true ∧ ((y : Int) != 19) = true ∧ ((y : Int) != 16) = false := by
      rcases hyy with rfl | rfl | rfl
      ·exact .inl rfl
      ·exact .inr (.inl ⟨rfl, rfl⟩)
      ·exact .inr (.inr ⟨rfl, rfl, rfl⟩)
     rw [he1, Bool.true_and] at hres
     rcases pass with q1 | ⟨q1, q2⟩ | ⟨q1, q2, q3⟩
     ·simp -implicitDefEqProofs only [eH1, eH2, l0, l1, l2, l3, c1, c2, c3, c4, c5, w, c6, d1', pm, w2, p0, p1, ld, cI, w3, q1, Bool.false_eq_true, go_sem]
      refine WP_mono (Q := fun ex fr H' => ex = .exit 0 ∧ m.lits.all (litP u) = true ∧ fr.get 2 = some (.ptr (some (H.next, 0))) ∧ fr.get 5 = some (.int .i64 m.code.length) ∧ Sm H2 H' ∨ ex = .ret ∧ m.lits.all (litP u) = false ∧ fr.get 4 = some (.int .i64 12) ∧ Sm H2 H') ?_ (WP_loop (fun k fr H' => ∃ i : Nat, k = m.lits.length - i ∧ i ≤ m.lits.length ∧ (∀ j (hj : j < i) (hj' : j < m.lits.length), litP u m.lits[j] = true) ∧ fr.get 2 = some (.ptr (some (H.next, 0))) ∧ fr.get 3 = some (.ptr (some (H1.next, 0))) ∧ fr.get 5 = some (.int .i64 m.code.length) ∧ fr.get 71 = some (.slice a' s0' m.lits.length cl') ∧ fr.get 72 = some (.int .i64 m.lits.length) ∧ fr.get 73 = some (.int .i64 i) ∧ Sm H2 H') m.lits.length ?_ ?_)
      rotate_left
      ·refine ⟨0, rfl, by omega, fun j hj => by omega, ?_⟩
       simp -implicitDefEqProofs only [go_sem]
       exact Chg.refl H2
      ·rintro k fr H3 ⟨i, hk, hi, hall, g2, g3, g5, g71, g72, g73, s3⟩
       have i0 : (0 : Int) ≤ (i : Int) := by omega
       by_cases hlt : i < m.lits.length
       ·have hlt' : (i : Int) < (m.lits.length : Int) := by omega
        have hw : IntKind.i64.wrap ((i : Int) + 1) = ((i + 1 : Nat) : Int) := by rw [wrap64 (by omega) (by omega)]; omega
        have bm3 := bm.sm s3
        obtain ⟨y2, o2, rfl, rfl, ldl, -, -, -, -, hxl⟩ := PrE.at bm3.lits hlt
        obtain ⟨H4, e1, e2, s4, r4⟩ := store_new H3 [.int .i64 0, .int .i64 0] [.int .i64 m.lits[i].1, .int .i64 m.lits[i].2] rfl
        have l4 := r4.load (n := 2) rfl
        have bu4 := bu.sm (s3.trans s4)
        have la := bu4.all
        simp -implicitDefEqProofs only [g2, g3, g5, g71, g72, g73, hlt', i0, ldl, e1, l4, la, go_sem]
        refine CW.mono (c_rliteral bu4.un m.lits[i]) ?_
        rintro w H5 ⟨rfl, s5⟩
        cases hl : litP u m.lits[i] with
        | false =>
         simp -implicitDefEqProofs only [go_sem]
         exact .inr ⟨List.all_eq_false.2 ⟨_, List.getElem_mem hlt, by rw [hl]; simp⟩, (s3.trans s4).trans s5⟩
        | true =>
         simp -implicitDefEqProofs only [g2, g3, g5, g71, g72, g73, hw, Bool.false_eq_true, go_sem]
         refine ⟨m.lits.length - (i + 1), by omega, i + 1, rfl, by omega, fun j hj hj' => ?_, rfl, (s3.trans s4).trans s5⟩
         by_cases e : j = i
         ·subst e; exact hl
         ·exact hall j (by omega) hj'
       ·have hlt' : ¬ (i : Int) < (m.lits.length : Int) := by omega
        have hall' : m.lits.all (litP u) = true := List.all_eq_true.2 fun y hy => by
         obtain ⟨j, hj, rfl⟩ := List.getElem_of_mem hy
         exact hall j (by omega) hj
        simp -implicitDefEqProofs only [g2, g3, g5, g71, g72, g73, hlt', Bool.false_eq_true, go_sem]
        exact .inl ⟨hall', s3⟩
      ·rintro ex fr H3 (⟨rfl, hla, g2, g5, s3⟩ | ⟨rfl, hla, g4, s3⟩)
       ·rw [hla, Bool.true_and] at hres
        simp -implicitDefEqProofs only [g2, g5, go_sem]
        refine WP_loop (fun k fr H' => ∃ pc : Nat, k = m.code.length - pc ∧ pc ≤ m.code.length ∧ pc % 2 = 0 ∧ (∀ i, i < pc / 2 → codeAt m i = true) ∧ fr.get 2 = some (.ptr (some (H.next, 0))) ∧ fr.get 5 = some (.int .i64 m.code.length) ∧ fr.get 9 = some (.int .i64 pc) ∧ Sm H2 H') m.code.length ?_ ?_
        ·refine ⟨0, rfl, by omega, rfl, fun i hi => by omega, ?_⟩
         simp -implicitDefEqProofs only [g2, g5, go_sem]
         exact s3
        ·rintro k fr H6 ⟨pc, hk, hpc, hev, hall, g2, g5, g9, s6⟩
         have bm6 := bm.sm s6
         by_cases hlt : pc < m.code.length
         ·have hlt' : (pc : Int) < (m.code.length : Int) := by omega
          have hpl : pc + 1 < m.code.length := by omega
          have mm := bm6.all
          have hw : IntKind.i64.wrap ((pc : Int) + 2) = ((pc + 2 : Nat) : Int) := by rw [wrap64 (by omega) (by omega)]; omega
          simp -implicitDefEqProofs only [g2, g5, g9, mm, hlt', go_sem]
          refine CW.mono (c_rinst bm6.me hev hpl hcl ma) ?_
          rintro w H7 ⟨rfl, s7⟩
          cases hi : instP m m.code[pc] m.code[pc + 1] pc with
          | false =>
           simp -implicitDefEqProofs only [go_sem]
           exact ⟨by rw [hres, codeP_bad hev hpl hi]; rfl, (s12.trans s6).trans s7⟩
          | true =>
           simp -implicitDefEqProofs only [g2, g5, g9, hw, Bool.false_eq_true, go_sem]
           refine ⟨m.code.length - (pc + 2), by omega, pc + 2, rfl, by omega, by omega, fun i hi' => ?_, rfl, s6.trans s7⟩
           by_cases e : i = pc / 2
           ·subst e; rw [codeAt_nat hev hpl, hi]
           ·exact hall i (by omega)
         ·have hlt' : ¬ (pc : Int) < (m.code.length : Int) := by omega
          have := codeP_all fun i hi => hall i (by omega)
          simp -implicitDefEqProofs only [g2, g5, g9, hlt', Bool.false_eq_true, go_sem]
          exact ⟨by rw [hres, this]; rfl, s12.trans s6⟩
       ·rw [hla, Bool.false_and] at hres
        simp -implicitDefEqProofs only [g4, go_sem]
        exact ⟨by rw [hres]; rfl, s12.trans s3⟩
     ·simp -implicitDefEqProofs only [eH1, eH2, l0, l1, l2, l3, c1, c2, c3, c4, c5, w, c6, d1', pm, w2, p0, p1, ld, cI, w3, q1, q2, Bool.false_eq_true, go_sem]
      refine WP_mono (Q := fun ex fr H' => ex = .exit 0 ∧ m.lits.all (litP u) = true ∧ fr.get 2 = some (.ptr (some (H.next, 0))) ∧ fr.get 5 = some (.int .i64 m.code.length) ∧ Sm H2 H' ∨ ex = .ret ∧ m.lits.all (litP u) = false ∧ fr.get 4 = some (.int .i64 12) ∧ Sm H2 H') ?_ (WP_loop (fun k fr H' => ∃ i : Nat, k = m.lits.length - i ∧ i ≤ m.lits.length ∧ (∀ j (hj : j < i) (hj' : j < m.lits.length), litP u m.lits[j] = true) ∧ fr.get 2 = some (.ptr (some (H.next, 0))) ∧ fr.get 3 = some (.ptr (some (H1.next, 0))) ∧ fr.get 5 = some (.int .i64 m.code.length) ∧ fr.get 71 = some (.slice a' s0' m.lits.length cl') ∧ fr.get 72 = some (.int .i64 m.lits.length) ∧ fr.get 73 = some (.int .i64 i) ∧ Sm H2 H') m.lits.length ?_ ?_)
      rotate_left
      ·refine ⟨0, rfl, by omega, fun j hj => by omega, ?_⟩
       simp -implicitDefEqProofs only [go_sem]
       exact Chg.refl H2
      ·rintro k fr H3 ⟨i, hk, hi, hall, g2, g3, g5, g71, g72, g73, s3⟩
       have i0 : (0 : Int) ≤ (i : Int) := by omega
       by_cases hlt : i < m.lits.length
       ·have hlt' : (i : Int) < (m.lits.length : Int) := by omega
        have hw : IntKind.i64.wrap ((i : Int) + 1) = ((i + 1 : Nat) : Int) := by rw [wrap64 (by omega) (by omega)]; omega
        have bm3 := bm.sm s3
        obtain ⟨y2, o2, rfl, rfl, ldl, -, -, -, -, hxl⟩ := PrE.at bm3.lits hlt
        obtain ⟨H4, e1, e2, s4, r4⟩ := store_new H3 [.int .i64 0, .int .i64 0] [.int .i64 m.lits[i].1, .int .i64 m.lits[i].2] rfl
        have l4 := r4.load (n := 2) rfl
        have bu4 := bu.sm (s3.trans s4)
        have la := bu4.all
        simp -implicitDefEqProofs only [g2, g3, g5, g71, g72, g73, hlt', i0, ldl, e1, l4, la, go_sem]
        refine CW.mono (c_rliteral bu4.un m.lits[i]) ?_
        rintro w H5 ⟨rfl, s5⟩
        cases hl : litP u m.lits[i] with
        | false =>
         simp -implicitDefEqProofs only [go_sem]
         exact .inr ⟨List.all_eq_false.2 ⟨_, List.getElem_mem hlt, by rw [hl]; simp⟩, (s3.trans s4).trans s5⟩
        | true =>
         simp -implicitDefEqProofs only [g2, g3, g5, g71, g72, g73, hw, Bool.false_eq_true, go_sem]
         refine ⟨m.lits.length - (i + 1), by omega, i + 1, rfl, by omega, fun j hj hj' => ?_, rfl, (s3.trans s4).trans s5⟩
         by_cases e : j = i
         ·subst e; exact hl
         ·exact hall j (by omega) hj'
       ·have hlt' : ¬ (i : Int) < (m.lits.length : Int) := by omega
        have hall' : m.lits.all (litP u) = true := List.all_eq_true.2 fun y hy => by
         obtain ⟨j, hj, rfl⟩ := List.getElem_of_mem hy
         exact hall j (by omega) hj
        simp -implicitDefEqProofs only [g2, g3, g5, g71, g72, g73, hlt', Bool.false_eq_true, go_sem]
        exact .inl ⟨hall', s3⟩
      ·rintro ex fr H3 (⟨rfl, hla, g2, g5, s3⟩ | ⟨rfl, hla, g4, s3⟩)
       ·rw [hla, Bool.true_and] at hres
        simp -implicitDefEqProofs only [g2, g5, go_sem]
        refine WP_loop (fun k fr H' => ∃ pc : Nat, k = m.code.length - pc ∧ pc ≤ m.code.length ∧ pc % 2 = 0 ∧ (∀ i, i < pc / 2 → codeAt m i = true) ∧ fr.get 2 = some (.ptr (some (H.next, 0))) ∧ fr.get 5 = some (.int .i64 m.code.length) ∧ fr.get 9 = some (.int .i64 pc) ∧ Sm H2 H') m.code.length ?_ ?_
        ·refine ⟨0, rfl, by omega, rfl, fun i hi => by omega, ?_⟩
         simp -implicitDefEqProofs only [g2, g5, go_sem]
         exact s3
        ·rintro k fr H6 ⟨pc, hk, hpc, hev, hall, g2, g5, g9, s6⟩
         have bm6 := bm.sm s6
         by_cases hlt : pc < m.code.length
         ·have hlt' : (pc : Int) < (m.code.length : Int) := by omega
          have hpl : pc + 1 < m.code.length := by omega
          have mm := bm6.all
          have hw : IntKind.i64.wrap ((pc : Int) + 2) = ((pc + 2 : Nat) : Int) := by rw [wrap64 (by omega) (by omega)]; omega
          simp -implicitDefEqProofs only [g2, g5, g9, mm, hlt', go_sem]
          refine CW.mono (c_rinst bm6.me hev hpl hcl ma) ?_
          rintro w H7 ⟨rfl, s7⟩
          cases hi : instP m m.code[pc] m.code[pc + 1] pc with
          | false =>
           simp -implicitDefEqProofs only [go_sem]
           exact ⟨by rw [hres, codeP_bad hev hpl hi]; rfl, (s12.trans s6).trans s7⟩
          | true =>
           simp -implicitDefEqProofs only [g2, g5, g9, hw, Bool.false_eq_true, go_sem]
           refine ⟨m.code.length - (pc + 2), by omega, pc + 2, rfl, by omega, by omega, fun i hi' => ?_, rfl, s6.trans s7⟩
           by_cases e : i = pc / 2
           ·subst e; rw [codeAt_nat hev hpl, hi]
           ·exact hall i (by omega)
         ·have hlt' : ¬ (pc : Int) < (m.code.length : Int) := by omega
          have := codeP_all fun i hi => hall i (by omega)
          simp -implicitDefEqProofs only [g2, g5, g9, hlt', Bool.false_eq_true, go_sem]
          exact ⟨by rw [hres, this]; rfl, s12.trans s6⟩
       ·rw [hla, Bool.false_and] at hres
        simp -implicitDefEqProofs only [g4, go_sem]
        exact ⟨by rw [hres]; rfl, s12.trans s3⟩
     ·simp -implicitDefEqProofs only [eH1, eH2, l0, l1, l2, l3, c1, c2, c3, c4, c5, w, c6, d1', pm, w2, p0, p1, ld, cI, w3, q1, q2, q3, Bool.false_eq_true, go_sem]
      refine WP_mono (Q := fun ex fr H' => ex = .exit 0 ∧ m.lits.all (litP u) = true ∧ fr.get 2 = some (.ptr (some (H.next, 0))) ∧ fr.get 5 = some (.int .i64 m.code.length) ∧ Sm H2 H' ∨ ex = .ret ∧ m.lits.all (litP u) = false ∧ fr.get 4 = some (.int .i64 12) ∧ Sm H2 H') ?_ (WP_loop (fun k fr H' => ∃ i : Nat, k = m.lits.length - i ∧ i ≤ m.lits.length ∧ (∀ j (hj : j < i) (hj' : j < m.lits.length), litP u m.lits[j] = true) ∧ fr.get 2 = some (.ptr (some (H.next, 0))) ∧ fr.get 3 = some (.ptr (some (H1.next, 0))) ∧ fr.get 5 = some (.int .i64 m.code.length) ∧ fr.get 71 = some (.slice a' s0' m.lits.length cl') ∧ fr.get 72 = some (.int .i64 m.lits.length) ∧ fr.get 73 = some (.int .i64 i) ∧ Sm H2 H') m.lits.length ?_ ?_)
      rotate_left
      ·refine ⟨0, rfl, by omega, fun j hj => by omega, ?_⟩
       simp -implicitDefEqProofs only [go_sem]
       exact Chg.refl H2
      ·rintro k fr H3 ⟨i, hk, hi, hall, g2, g3, g5, g71, g72, g73, s3⟩
       have i0 : (0 : Int) ≤ (i : Int) := by omega
       by_cases hlt : i < m.lits.length
       ·have hlt' : (i : Int) < (m.lits.length : Int) := by omega
        have hw : IntKind.i64.wrap ((i : Int) + 1) = ((i + 1 : Nat) : Int) := by rw [wrap64 (by omega) (by omega)]; omega
        have bm3 := bm.sm s3
        obtain ⟨y2, o2, rfl, rfl, ldl, -, -, -, -, hxl⟩ := PrE.at bm3.lits hlt
        obtain ⟨H4, e1, e2, s4, r4⟩ := store_new H3 [.int .i64 0, .int .i64 0] [.int .i64 m.lits[i].1, .int .i64 m.lits[i].2] rfl
        have l4 := r4.load (n := 2) rfl
        have bu4 := bu.sm (s3.trans s4)
        have la := bu4.all
        simp -implicitDefEqProofs only [g2, g3, g5, g71, g72, g73, hlt', i0, ldl, e1, l4, la, go_sem]
        refine CW.mono (c_rliteral bu4.un m.lits[i]) ?_
        rintro w H5 ⟨rfl, s5⟩
        cases hl : litP u m.lits[i] with
        | false =>
         simp -implicitDefEqProofs only [go_sem]
         exact .inr ⟨List.all_eq_false.2 ⟨_, List.getElem_mem hlt, by rw [hl]; simp⟩, (s3.trans s4).trans s5⟩
        | true =>
         simp -implicitDefEqProofs only [g2, g3, g5, g71, g72, g73, hw, Bool.false_eq_true, go_sem]
         refine ⟨m.lits.length - (i + 1), by omega, i + 1, rfl, by omega, fun j hj hj' => ?_, rfl, (s3.trans s4).trans s5⟩
         by_cases e : j = i
         ·subst e; exact hl
         ·exact hall j (by omega) hj'
       ·have hlt' : ¬ (i : Int) < (m.lits.length : Int) := by omega
        have hall' : m.lits.all (litP u) = true := List.all_eq_true.2 fun y hy => by
         obtain ⟨j, hj, rfl⟩ := List.getElem_of_mem hy
         exact hall j (by omega) hj
        simp -implicitDefEqProofs only [g2, g3, g5, g71, g72, g73, hlt', Bool.false_eq_true, go_sem]
        exact .inl ⟨hall', s3⟩
      ·rintro ex fr H3 (⟨rfl, hla, g2, g5, s3⟩ | ⟨rfl, hla, g4, s3⟩)
       ·rw [hla, Bool.true_and] at hres
        simp -implicitDefEqProofs only [g2, g5, go_sem]
        refine WP_loop (fun k fr H' => ∃ pc : Nat, k = m.code.length - pc ∧ pc ≤ m.code.length ∧ pc % 2 = 0 ∧ (∀ i, i < pc / 2 → codeAt m i = true) ∧ fr.get 2 = some (.ptr (some (H.next, 0))) ∧ fr.get 5 = some (.int .i64 m.code.length) ∧ fr.get 9 = some (.int .i64 pc) ∧ Sm H2 H') m.code.length ?_ ?_
        ·refine ⟨0, rfl, by omega, rfl, fun i hi => by omega, ?_⟩
         simp -implicitDefEqProofs only [g2, g5, go_sem]
         exact s3
        ·rintro k fr H6 ⟨pc, hk, hpc, hev, hall, g2, g5, g9, s6⟩
         have bm6 := bm.sm s6
         by_cases hlt : pc < m.code.length
         ·have hlt' : (pc : Int) < (m.code.length : Int) := by omega
          have hpl : pc + 1 < m.code.length := by omega
          have mm := bm6.all
          have hw : IntKind.i64.wrap ((pc : Int) + 2) = ((pc + 2 : Nat) : Int) := by rw [wrap64 (by omega) (by omega)]; omega
          simp -implicitDefEqProofs only [g2, g5, g9, mm, hlt', go_sem]
          refine CW.mono (c_rinst bm6.me hev hpl hcl ma) ?_
          rintro w H7 ⟨rfl, s7⟩
          cases hi : instP m m.code[pc] m.code[pc + 1] pc with
          | false =>
           simp -implicitDefEqProofs only [go_sem]
           exact ⟨by rw [hres, codeP_bad hev hpl hi]; rfl, (s12.trans s6).trans s7⟩
          | true =>
           simp -implicitDefEqProofs only [g2, g5, g9, hw, Bool.false_eq_true, go_sem]
           refine ⟨m.code.length - (pc + 2), by omega, pc + 2, rfl, by omega, by omega, fun i hi' => ?_, rfl, s6.trans s7⟩
           by_cases e : i = pc / 2
           ·subst e; rw [codeAt_nat hev hpl, hi]
           ·exact hall i (by omega)
         ·have hlt' : ¬ (pc : Int) < (m.code.length : Int) := by omega
          have := codeP_all fun i hi => hall i (by omega)
          simp -implicitDefEqProofs only [g2, g5, g9, hlt', Bool.false_eq_true, go_sem]
          exact ⟨by rw [hres, this]; rfl, s12.trans s6⟩
       ·rw [hla, Bool.false_and] at hres
        simp -implicitDefEqProofs only [g4, go_sem]
        exact ⟨by rw [hres]; rfl, s12.trans s3⟩
    ·have he1 : endsP m = false := by rw [he]; simp [y1, y2, y3]
     rw [he1] at hres
     have q1 : ((y : Int) != 14) = true := by simp; omega
     have q2 : ((y : Int) != 19) = true := by simp; omega
     have q3 : ((y : Int) != 16) = true := by simp; omega
     simp -implicitDefEqProofs only [eH1, eH2, l0, l1, l2, l3, c1, c2, c3, c4, c5, w, c6, d1', pm, w2, p0, p1, ld, cI, w3, q1, q2, q3, hres, Bool.false_and, Bool.false_eq_true, go_sem]
     exact s12
   ·have pm : (((m.code.length : Int).tmod 2) != 0) = true := by
     rw [Int.tmod_eq_emod_of_nonneg (by omega)]; simp; omega
    have he : endsP m = false := by simp [endsP, d2]
    rw [he] at hres
    simp -implicitDefEqProofs only [eH1, eH2, l0, l1, l2, l3, c1, c2, c3, c4, c5, w, c6, d1', pm, hres, Bool.false_and, Bool.false_eq_true, go_sem]
    exact s12
set_option maxHeartbeats 4000000
def NmN (H0 H : AHeap) (b r : Nat) (l : List (List Nat)) : Prop := Sm H0 H ∧ ∃ D : Nat → Prop, NamR H b r D l ∧ H0.next ≤ b ∧ H0.next ≤ r ∧ ∀ x, D x → H0.next ≤ x
theorem nm_New (H : AHeap) : CW MN 62 [] H fun v H' => ∃ b r, v = .ptr (some (b, 0)) ∧ NmN H H' b r [] :=
 (c_NewN H).mono fun v H' ⟨b, r, e, n, h1, h2, s⟩ => ⟨b, r, e, s, _, n, h1, h2, fun _ h => h.elim⟩
theorem nm_Intern {H0 H : AHeap} {b r : Nat} {l : List (List Nat)} {s : List Nat} (h : NmN H0 H b r l) (hs : stOk s) : CW MN 63 [.ptr (some (b, 0)), .str s] H fun v H' => v = .int .i64 (internP l s).1 ∧ NmN H0 H' b r (internP l s).2 := by
 obtain ⟨s0, D, n, h1, h2, h3⟩ := h
 refine (c_Intern n hs.1 hs.2).mono fun v H' ⟨e, n', el⟩ => ⟨e, Sm.of (Nat.le_trans s0.1 el.1) fun x hx => ?_, _, n', h1, h2, ?_⟩
 ·rw [el.2 x (by have := s0.1; omega) (by omega) (by omega) (fun hd => by have := h3 x hd; omega), s0.gt hx]
 ·rintro x (hd | hd)
  ·exact h3 x hd
  ·have := s0.1; omega
theorem NmN.sm {H0 H H' : AHeap} {b r : Nat} {l : List (List Nat)} (h : NmN H0 H b r l) (s : Sm H H') : NmN H0 H' b r l := by
 obtain ⟨s0, D, n, h1, h2, h3⟩ := h
 exact ⟨s0.trans s, D, n.sm s, h1, h2, h3⟩
theorem StE.at {H : AHeap} {l : List (List Nat)} {a : Option (Nat × Nat)} {s0 n : Nat} {cl : Bool} (h : SlE StE 1 H l [.slice a s0 n cl]) {i : Nat} (hi : i < l.length) : ∃ x o, a = some (x, o) ∧ s0 = 1 ∧ loadA H x (o + i) 1 = some [.str l[i]] ∧ stOk l[i] ∧ x < H.next := by
 obtain ⟨x, o, r, rfl, rfl, ld, hl, ⟨rfl, h1⟩, hr⟩ := h.at hi
 rw [Nat.mul_one] at ld
 exact ⟨x, o, rfl, rfl, ld, h1, hr.1⟩
def nameAt (l : List (List Nat)) (i : Nat) : Bool := rightP (l.getD i []) && !((l.take i).any fun x => x == l.getD i [])
def namesP (l : List (List Nat)) : Bool := (List.range l.length).all (nameAt l)
theorem nameAt_nat {l : List (List Nat)} {i : Nat} (h : i < l.length) : nameAt l i = (rightP l[i] && !((l.take i).any fun x => x == l[i])) := by
 have : l.getD i [] = l[i] := by rw [List.getD_eq_getElem?_getD, List.getElem?_eq_getElem h]; rfl
 rw [nameAt, this]
theorem namesP_bad {l : List (List Nat)} {i : Nat} (h : i < l.length) (hb : nameAt l i = false) : namesP l = false := List.all_eq_false.2 ⟨i, List.mem_range.2 h, by rw [hb]; simp⟩
theorem namesP_all {l : List (List Nat)} (h : ∀ i, i < l.length → nameAt l i = true) : namesP l = true := List.all_eq_true.2 fun i hi => h i (List.mem_range.1 hi)
theorem intern_take {l : List (List Nat)} {i : Nat} (hi : i < l.length) (h48 : l.length ≤ 48) : (nameAt l i = true → internP (l.take i) l[i] = ((i : Int), l.take (i + 1))) ∧ (nameAt l i = false → (internP (l.take i) l[i]).1 ≠ (i : Int)) := by
 rw [nameAt_nat hi]
 have hl : (l.take i).length = i := by simp; omega
 have hmem : ((l.take i).any fun x => x == l[i]) = true ↔ l[i] ∈ l.take i := by
  rw [List.any_eq_true]
  constructor
  ·rintro ⟨x, hx, e⟩; have : x = l[i] := by simpa using e
   exact this ▸ hx
  ·intro h; exact ⟨_, h, by simp⟩
 have e1 : l.take (i + 1) = l.take i ++ [l[i]] := take_snoc hi
 rw [e1]
 clear e1
 generalize l[i] = s at *
 constructor
 ·intro h
  simp only [Bool.and_eq_true, Bool.not_eq_true'] at h
  have hn : idxP (l.take i) s = none := by
   unfold idxP
   rw [List.findIdx?_eq_none_iff]
   intro x hx
   have := List.any_eq_false.1 h.2 x hx
   simpa using this
  unfold internP
  rw [if_pos h.1, hn]
  dsimp only
  rw [if_neg (by omega), hl]
 ·intro h
  cases hr : rightP s with
  | false => simp [internP, hr]
  | true =>
   rw [hr, Bool.true_and] at h
   have hin : ((l.take i).any fun x => x == s) = true := by
    cases hh : (l.take i).any fun x => x == s
    ·rw [hh] at h; cases h
    ·rfl
   unfold internP
   rw [if_pos hr]
   cases hx : idxP (l.take i) s with
   | none =>
    unfold idxP at hx
    rw [List.findIdx?_eq_none_iff] at hx
    obtain ⟨y, hy, e⟩ := List.any_eq_true.1 hin
    rw [hx y hy] at e; cases e
   | some j =>
    unfold idxP at hx
    rw [List.findIdx?_eq_some_iff_getElem] at hx
    obtain ⟨h1, -⟩ := hx
    dsimp only
    omega
theorem c_names {H : AHeap} {l : List (List Nat)} {v : AV} (h : SlE StE 1 H l [v]) (h48 : l.length ≤ 48) : CW MN 26 [v] H fun w H' => w = .int .i64 (if namesP l then 0 else 13) ∧ Sm H H' := by
 refine CW_of (fn := af26) rfl ?_
 obtain ⟨a, s0, cl, rfl, -⟩ := h.shape
 have hmax := h.max
 dsimp only [af26, qm, q, qG, qn, qi, qb, qB, qk, qc, qo, qg, qv, qr]
 simp -implicitDefEqProofs only [go_sem]
 refine CW.mono (nm_New H) ?_
 rintro w H1 ⟨b, r, rfl, t1⟩
 simp -implicitDefEqProofs only [go_sem]
 refine WP_loop (fun k fr H' => ∃ i : Nat, k = l.length - i ∧ i ≤ l.length ∧ (∀ j, j < i → nameAt l j = true) ∧ fr.get 3 = some (.ptr (some (b, 0))) ∧ fr.get 7 = some (.slice a s0 l.length cl) ∧ fr.get 8 = some (.int .i64 l.length) ∧ fr.get 9 = some (.int .i64 i) ∧ NmN H H' b r (l.take i)) l.length ?_ ?_
 ·refine ⟨0, rfl, by omega, fun j hj => by omega, ?_⟩
  simp -implicitDefEqProofs only [List.take_zero, go_sem]
  exact t1
 ·rintro k fr H2 ⟨i, hk, hi, hall, g3, g7, g8, g9, t2⟩
  have i0 : (0 : Int) ≤ (i : Int) := by omega
  by_cases hlt : i < l.length
  ·have hlt' : (i : Int) < (l.length : Int) := by omega
   have hw := wrapS hlt hmax
   have h2 := MonoE.enc.sl _ _ _ _ h t2.1
   obtain ⟨x, o, rfl, rfl, ld, hok, -⟩ := StE.at h2 hlt
   obtain ⟨q1, q2⟩ := intern_take hlt h48
   have bad : nameAt l i = false → namesP l = false := namesP_bad hlt
   generalize l[i] = s at ld hok q1 q2
   simp -implicitDefEqProofs only [g3, g7, g8, g9, hlt', i0, ld, go_sem]
   refine CW.mono (nm_Intern t2 hok) ?_
   rintro w H3 ⟨rfl, t3⟩
   cases hn : nameAt l i with
   | true =>
    rw [q1 hn] at t3 ⊢
    simp -implicitDefEqProofs only [g3, g7, g8, g9, hw, bne_self_eq_false, Bool.false_eq_true, go_sem]
    refine ⟨l.length - (i + 1), by omega, i + 1, rfl, by omega, fun j hj => ?_, rfl, t3⟩
    by_cases e : j = i
    ·subst e; exact hn
    ·exact hall j (by omega)
   | false =>
    have hb : ((internP (l.take i) s).1 != (i : Int)) = true := by simpa using q2 hn
    simp -implicitDefEqProofs only [g3, g7, g8, g9, hb, go_sem]
    exact ⟨by rw [bad hn]; rfl, t3.1⟩
  ·have hlt' : ¬ (i : Int) < (l.length : Int) := by omega
   have := namesP_all fun j hj => hall j (by omega)
   simp -implicitDefEqProofs only [g3, g7, g8, g9, hlt', this, Bool.false_eq_true, go_sem]
   exact t2.1
set_option maxHeartbeats 4000000
theorem any_at {α : Type} {p : α → Bool} {l : List α} {i : Nat} (h : i < l.length) (hp : p l[i] = true) : l.any p = true := List.any_eq_true.2 ⟨_, List.getElem_mem h, hp⟩
theorem any_no {α : Type} {p : α → Bool} {l : List α} (h : ∀ i (hi : i < l.length), p l[i] = false) : l.any p = false := List.any_eq_false.2 fun x hx => by
 obtain ⟨j, hj, rfl⟩ := List.getElem_of_mem hx
 rw [h j hj]; simp
def dM : UMethod := ⟨0, 0, [], []⟩
def mAt (u : UUnit) (i : Nat) : UMethod := u.methods.getD i dM
theorem mAt_nat {u : UUnit} {i : Nat} (h : i < u.methods.length) : mAt u i = u.methods[i] := by rw [mAt, List.getD_eq_getElem?_getD, List.getElem?_eq_getElem h]; rfl
def badBind (u : UUnit) (b : Pr2) : Bool := argsP (u.names.getD b.1.toNat []) != (mAt u b.2.toNat).args
def badDict (c : UClass) : Bool := !dictP c.binds
def badMeth (u : UUnit) (i : Nat) : Int := methodP u (mAt u i)
def methodsP (u : UUnit) : Int :=
 if u.classes.any badDict = true then 14
 else if firstBad u.methods.length (badMeth u) ≠ 0 then firstBad u.methods.length (badMeth u)
 else if (u.classes.any fun c => c.binds.any (badBind u)) = true then 15 else 0
def bindsOk (u : UUnit) : Prop := ∀ c, c ∈ u.classes → ∀ b, b ∈ c.binds → 0 ≤ b.1 ∧ b.1 < u.names.length ∧ 0 ≤ b.2 ∧ b.2 < u.methods.length
theorem c_methods {H : AHeap} {u : UUnit} {cu : List AV} (hu : UnE H u cu) (hbk : bindsOk u) : CW MN 28 [.agg cu] H fun w H' => w = .int .i64 (methodsP u) ∧ Sm H H' := by
 refine CW_of (fn := af28) rfl ?_
 dsimp only [af28, qm, q, qG, qn, qi, qb, qB, qk, qc, qo, qg, qv, qr]
 obtain ⟨v1, v2, v3, v4, bu, rfl⟩ := BoxU.of hu
 have s1 := Chg.newRow H [v1, v2, v3, v4, .int .i64 u.main]
 have hn1 : (H.newRow [v1, v2, v3, v4, .int .i64 u.main]).next = H.next + 1 := rfl
 generalize eH1 : H.newRow [v1, v2, v3, v4, .int .i64 u.main] = H1 at bu s1 hn1
 obtain ⟨a1, z1, c1, rfl, -⟩ := bu.names.shape
 obtain ⟨a2, z2, c2, rfl, -⟩ := bu.classes.shape
 obtain ⟨a3, z3, c3, rfl, -⟩ := bu.methods.shape
 have m2 := bu.classes.max
 have m3 := bu.methods.max
 have l1 := bu.l1
 simp -implicitDefEqProofs only [eH1, l1, go_sem]
 refine WP_mono (Q := fun ex fr H' => ex = .exit 0 ∧ u.classes.any badDict = false ∧ fr.get 1 = some (.ptr (some (H.next, 0))) ∧ Sm H1 H' ∨ ex = .ret ∧ u.classes.any badDict = true ∧ fr.get 2 = some (.int .i64 14) ∧ Sm H1 H') ?_ (WP_loop (fun k fr H' => ∃ i : Nat, k = u.classes.length - i ∧ i ≤ u.classes.length ∧ (∀ j (hj : j < u.classes.length), j < i → badDict u.classes[j] = false) ∧ fr.get 1 = some (.ptr (some (H.next, 0))) ∧ fr.get 15 = some (.slice a2 z2 u.classes.length c2) ∧ fr.get 16 = some (.int .i64 u.classes.length) ∧ fr.get 17 = some (.int .i64 i) ∧ Sm H1 H') u.classes.length ?_ ?_)
 rotate_left
 ·refine ⟨0, rfl, by omega, fun j hj hj' => by omega, ?_⟩
  simp -implicitDefEqProofs only [go_sem]
  exact Chg.refl H1
 ·rintro k fr H2 ⟨i, hk, hi, hall, g1, g15, g16, g17, s2⟩
  have i0 : (0 : Int) ≤ (i : Int) := by omega
  by_cases hlt : i < u.classes.length
  ·have hlt' : (i : Int) < (u.classes.length : Int) := by omega
   have hw := wrapS hlt m2
   obtain ⟨x, o, vb, rfl, rfl, ld, -, -, -, -, hvb, -⟩ := ClE.at (bu.sm s2).classes hlt
   obtain ⟨H3, q1, q2, s3, r3⟩ := store_new H2 [.str [], .int .i64 0, .int .i64 0, .slice none 1 0 true] [.str u.classes[i].name, iv u.classes[i].super, iv u.classes[i].fields, vb] rfl
   have lb := r3.one (j := 3) rfl
   rw [Nat.zero_add] at lb
   simp only [iv] at ld q1
   simp -implicitDefEqProofs only [g1, g15, g16, g17, hlt', i0, ld, q1, lb, go_sem]
   refine CW.mono (c_dOf (MonoE.enc.sl _ _ _ _ hvb s3)) ?_
   rintro w H4 ⟨⟨p, rfl⟩, s4⟩
   cases hd : dictP u.classes[i].binds with
   | false =>
    simp -implicitDefEqProofs only [at0, at1, go_sem]
    exact .inr ⟨any_at hlt (by simp [badDict, hd]), (s2.trans s3).trans s4⟩
   | true =>
    simp -implicitDefEqProofs only [g1, g15, g16, g17, at0, at1, hw, Bool.false_eq_true, go_sem]
    refine ⟨u.classes.length - (i + 1), by omega, i + 1, rfl, by omega, fun j hj hj' => ?_, rfl, (s2.trans s3).trans s4⟩
    by_cases e : j = i
    ·subst e; simp [badDict, hd]
    ·exact hall j hj (by omega)
  ·have hlt' : ¬ (i : Int) < (u.classes.length : Int) := by omega
   simp -implicitDefEqProofs only [g1, g15, g16, g17, hlt', Bool.false_eq_true, go_sem]
   exact .inl ⟨any_no fun j hj => hall j hj (by omega), s2⟩
 rintro ex fr H2 (⟨rfl, hcl, g1, s2⟩ | ⟨rfl, hcl, g2, s2⟩)
 ·have bu2 := bu.sm s2
  have l2 := bu2.l2
  simp -implicitDefEqProofs only [g1, l2, go_sem]
  refine WP_mono (Q := fun ex fr H' => ex = .exit 2 ∧ firstBad u.methods.length (badMeth u) = 0 ∧ fr.get 1 = some (.ptr (some (H.next, 0))) ∧ Sm H1 H' ∨ ex = .ret ∧ firstBad u.methods.length (badMeth u) ≠ 0 ∧ fr.get 2 = some (.int .i64 (firstBad u.methods.length (badMeth u))) ∧ Sm H1 H') ?_ (WP_loop (fun k fr H' => ∃ i : Nat, k = u.methods.length - i ∧ i ≤ u.methods.length ∧ (∀ j, j < i → badMeth u j = 0) ∧ fr.get 1 = some (.ptr (some (H.next, 0))) ∧ fr.get 31 = some (.slice a3 z3 u.methods.length c3) ∧ fr.get 32 = some (.int .i64 u.methods.length) ∧ fr.get 33 = some (.int .i64 i) ∧ Sm H1 H') u.methods.length ?_ ?_)
  rotate_left
  ·refine ⟨0, rfl, by omega, fun j hj => by omega, ?_⟩
   simp -implicitDefEqProofs only [g1, go_sem]
   exact s2
  ·rintro k fr H3 ⟨i, hk, hi, hall, g1, g31, g32, g33, s3⟩
   have i0 : (0 : Int) ≤ (i : Int) := by omega
   by_cases hlt : i < u.methods.length
   ·have hlt' : (i : Int) < (u.methods.length : Int) := by omega
    have hw := wrapS hlt m3
    obtain ⟨x, o, r, rfl, rfl, ld, hl, hm, -⟩ := (bu.sm s3).methods.at hlt
    obtain ⟨H4, q1, q2, s4, r4⟩ := store_new H3 [.int .i64 0, .int .i64 0, .slice none 1 0 true, .slice none 1 0 true] r hl
    have l4 := r4.load (n := 4) hl
    have bu4 := bu.sm (s3.trans s4)
    have la := bu4.all
    simp -implicitDefEqProofs only [g1, g31, g32, g33, hlt', i0, ld, hl, q1, l4, la, go_sem]
    refine CW.mono (c_codeRight bu4.un (MonoE.me _ _ _ _ hm s4)) ?_
    rintro w H5 ⟨rfl, s5⟩
    have he : badMeth u i = methodP u u.methods[i] := by rw [badMeth, mAt_nat hlt]
    rw [← he]
    by_cases hb : badMeth u i = 0
    ·have hb' : (badMeth u i != 0) = false := by simpa using hb
     simp -implicitDefEqProofs only [g1, g31, g32, g33, hb', hw, Bool.false_eq_true, go_sem]
     refine ⟨u.methods.length - (i + 1), by omega, i + 1, rfl, by omega, fun j hj => ?_, rfl, (s3.trans s4).trans s5⟩
     by_cases e : j = i
     ·subst e; exact hb
     ·exact hall j (by omega)
    ·have hb' : (badMeth u i != 0) = true := by simpa using hb
     have hf := firstBad_at hall hlt hb
     simp -implicitDefEqProofs only [g1, hb', hf, go_sem]
     exact .inr ⟨hb, (s3.trans s4).trans s5⟩
   ·have hlt' : ¬ (i : Int) < (u.methods.length : Int) := by omega
    simp -implicitDefEqProofs only [g1, g31, g32, g33, hlt', Bool.false_eq_true, go_sem]
    exact .inl ⟨firstBad_no fun j hj => hall j (by omega), s3⟩
  rintro ex fr H3 (⟨rfl, hfb, g1, s3⟩ | ⟨rfl, hfb, g2, s3⟩)
  ·have bu3 := bu.sm s3
   have l1 := bu3.l1
   have hres : methodsP u = if (u.classes.any fun c => c.binds.any (badBind u)) = true then 15 else 0 := by simp only [methodsP, hcl, hfb, Bool.false_eq_true, if_false, ne_eq, not_true_eq_false]
   simp -implicitDefEqProofs only [g1, l1, go_sem]
   refine WP_loop (fun k fr H' => ∃ i : Nat, k = u.classes.length - i ∧ i ≤ u.classes.length ∧ (∀ j (hj : j < u.classes.length), j < i → u.classes[j].binds.any (badBind u) = false) ∧ fr.get 1 = some (.ptr (some (H.next, 0))) ∧ fr.get 45 = some (.slice a2 z2 u.classes.length c2) ∧ fr.get 46 = some (.int .i64 u.classes.length) ∧ fr.get 47 = some (.int .i64 i) ∧ Sm H1 H') u.classes.length ?_ ?_
   ·refine ⟨0, rfl, by omega, fun j hj hj' => by omega, ?_⟩
    simp -implicitDefEqProofs only [g1, go_sem]
    exact s3
   ·rintro k fr H4 ⟨i, hk, hi, hall, g1, g45, g46, g47, s4⟩
    have i0 : (0 : Int) ≤ (i : Int) := by omega
    by_cases hlt : i < u.classes.length
    ·have hlt' : (i : Int) < (u.classes.length : Int) := by omega
     have hw := wrapS hlt m2
     obtain ⟨x, o, vb, rfl, rfl, ld, -, -, -, -, hvb, -⟩ := ClE.at (bu.sm s4).classes hlt
     obtain ⟨H5, q1, q2, s5, r5⟩ := store_new H4 [.str [], .int .i64 0, .int .i64 0, .slice none 1 0 true] [.str u.classes[i].name, iv u.classes[i].super, iv u.classes[i].fields, vb] rfl
     have lb := r5.one (j := 3) rfl
     rw [Nat.zero_add] at lb
     simp only [iv] at ld q1
     have hvb5 := MonoE.enc.sl _ _ _ _ hvb s5
     obtain ⟨ab, zb, cb, rfl, -⟩ := hvb5.shape
     have mb := hvb5.max
     have hcm := hbk _ (List.getElem_mem hlt)
     generalize hci : u.classes[i] = c at *
     simp -implicitDefEqProofs only [g1, g45, g46, g47, hlt', i0, ld, q1, lb, go_sem]
     refine WP_mono (Q := fun ex fr H' => ex = .exit 6 ∧ c.binds.any (badBind u) = false ∧ fr.get 1 = some (.ptr (some (H.next, 0))) ∧ fr.get 45 = some (.slice (some (x, o)) 4 u.classes.length c2) ∧ fr.get 46 = some (.int .i64 u.classes.length) ∧ fr.get 47 = some (.int .i64 i) ∧ Sm H5 H' ∨ ex = .ret ∧ c.binds.any (badBind u) = true ∧ fr.get 2 = some (.int .i64 15) ∧ Sm H5 H') ?_ (WP_loop (fun k fr H' => ∃ j : Nat, k = c.binds.length - j ∧ j ≤ c.binds.length ∧ (∀ q (hq : q < c.binds.length), q < j → badBind u c.binds[q] = false) ∧ fr.get 1 = some (.ptr (some (H.next, 0))) ∧ fr.get 45 = some (.slice (some (x, o)) 4 u.classes.length c2) ∧ fr.get 46 = some (.int .i64 u.classes.length) ∧ fr.get 47 = some (.int .i64 i) ∧ fr.get 52 = some (.slice ab zb c.binds.length cb) ∧ fr.get 53 = some (.int .i64 c.binds.length) ∧ fr.get 54 = some (.int .i64 j) ∧ Sm H5 H') c.binds.length ?_ ?_)
     rotate_left
     ·refine ⟨0, rfl, by omega, fun q hq hq' => by omega, ?_⟩
      simp -implicitDefEqProofs only [g1, g45, g46, g47, go_sem]
      exact Chg.refl H5
     ·rintro k fr H6 ⟨j, hk, hj, hallj, g1, g45, g46, g47, g52, g53, g54, s6⟩
      have j0 : (0 : Int) ≤ (j : Int) := by omega
      by_cases hjl : j < c.binds.length
      ·have hjl' : (j : Int) < (c.binds.length : Int) := by omega
       have hwj := wrapS hjl mb
       obtain ⟨y, p, rfl, rfl, ldp, -, -, -, -, hy⟩ := PrE.at (MonoE.enc.sl _ _ _ _ hvb5 s6) hjl
       obtain ⟨H7, e1, e2, s7, r7⟩ := store_new H6 [.int .i64 0, .int .i64 0] [.int .i64 c.binds[j].1, .int .i64 c.binds[j].2] rfl
       have lf := r7.one (j := 0) rfl
       have lg := r7.one (j := 1) rfl
       rw [Nat.zero_add] at lf lg
       have hbj := hcm _ (List.getElem_mem hjl)
       have hbad : badBind u c.binds[j] = true → c.binds.any (badBind u) = true := any_at hjl
       have hbr : badBind u c.binds[j] = (argsP (u.names.getD c.binds[j].1.toNat []) != (mAt u c.binds[j].2.toNat).args) := rfl
       generalize hbb : badBind u c.binds[j] = bb at *
       generalize c.binds[j] = bd at ldp e1 lf lg hbj hbr
       obtain ⟨b1, b2⟩ := bd
       dsimp only at *
       obtain ⟨n, rfl⟩ : ∃ n : Nat, b1 = n := ⟨b1.toNat, by omega⟩
       obtain ⟨m, rfl⟩ : ∃ m : Nat, b2 = m := ⟨b2.toNat, by omega⟩
       rw [Int.toNat_natCast, Int.toNat_natCast] at hbr
       have nl : n < u.names.length := by omega
       have ml : m < u.methods.length := by omega
       have n0 : (0 : Int) ≤ (n : Int) := by omega
       have nl' : (n : Int) < (u.names.length : Int) := by omega
       have m0 : (0 : Int) ≤ (m : Int) := by omega
       have ml' : (m : Int) < (u.methods.length : Int) := by omega
       have s17 : Sm H1 H7 := ((s4.trans s5).trans s6).trans s7
       have bu7 := bu.sm s17
       have k0 := bu7.l0
       obtain ⟨xn, on, rfl, rfl, ldn, nok, -⟩ := StE.at bu7.names nl
       have eg : u.names.getD n [] = u.names[n] := by rw [List.getD_eq_getElem?_getD, List.getElem?_eq_getElem nl]; rfl
       rw [eg, mAt_nat ml] at hbr
       simp -implicitDefEqProofs only [g1, g45, g46, g47, g52, g53, g54, j0, hjl', ldp, e1, lf, k0, n0, nl', ldn, go_sem]
       refine CW.mono (c_Args nok.1 nok.2) ?_
       rintro w H8 ⟨rfl, s8⟩
       have bu8 := bu7.sm s8
       have k2 := bu8.l2
       have k0' := bu8.l0
       have lf8 : loadA H8 H6.next 0 1 = some [.int .i64 (n : Int)] := by rw [s8.ld (by omega), lf]
       have lg8 : loadA H8 H6.next 1 1 = some [.int .i64 (m : Int)] := by rw [s8.ld (by omega), lg]
       obtain ⟨xm, om, rm, rfl, rfl, -, -, ⟨wl, wc, rfl, -⟩, rdm⟩ := bu8.methods.at ml
       have lda := rdm.one (j := 0) rfl
       rw [Nat.add_zero] at lda
       simp only [iv] at lda
       have k2' := bu7.l2
       have lg7 := lg
       have lda7 : loadA H7 xm (om + m * 4) 1 = some [.int .i64 u.methods[m].args] := by
        obtain ⟨xm', om', rm', e', -, -, -, ⟨wl', wc', rfl, -⟩, rdm'⟩ := bu7.methods.at ml
        cases e'
        have := rdm'.one (j := 0) rfl
        rw [Nat.add_zero] at this
        exact this
       cases hq : (argsP u.names[n] != u.methods[m].args) with
       | true =>
        simp -implicitDefEqProofs only [g1, g45, g46, g47, g52, g53, g54, k0, k0', k2, k2', lf, lf8, lg7, lg8, lda, lda7, m0, ml', n0, nl', ldn, hq, go_sem]
        exact .inr ⟨hbad (by rw [hbr, hq]), (s6.trans s7).trans s8⟩
       | false =>
        simp -implicitDefEqProofs only [g1, g45, g46, g47, g52, g53, g54, k0, k0', k2, k2', lf, lf8, lg7, lg8, lda, lda7, m0, ml', n0, nl', ldn, hq, hwj, Bool.false_eq_true, go_sem]
        refine ⟨c.binds.length - (j + 1), by omega, j + 1, rfl, by omega, fun q hq' hqj => ?_, rfl, (s6.trans s7).trans s8⟩
        by_cases e : q = j
        ·subst e; rw [hbb, hbr, hq]
        ·exact hallj q hq' (by omega)
      ·have hjl' : ¬ (j : Int) < (c.binds.length : Int) := by omega
       simp -implicitDefEqProofs only [g1, g45, g46, g47, g52, g53, g54, hjl', Bool.false_eq_true, go_sem]
       exact .inl ⟨any_no fun q hq => hallj q hq (by omega), s6⟩
     rintro ex fr H6 (⟨rfl, hno, g1, g45, g46, g47, s6⟩ | ⟨rfl, hye, g2, s6⟩)
     ·simp -implicitDefEqProofs only [g1, g45, g46, g47, hw, go_sem]
      refine ⟨u.classes.length - (i + 1), by omega, i + 1, rfl, by omega, fun j hj hj' => ?_, rfl, (s4.trans s5).trans s6⟩
      by_cases e : j = i
      ·subst e; rw [hci]; exact hno
      ·exact hall j hj (by omega)
     ·simp -implicitDefEqProofs only [g2, go_sem]
      refine ⟨?_, ((s1.trans s4).trans s5).trans s6⟩
      rw [hres, if_pos (any_at (i := i) hlt (by rw [hci]; exact hye))]
    ·have hlt' : ¬ (i : Int) < (u.classes.length : Int) := by omega
     have : (u.classes.any fun c => c.binds.any (badBind u)) = false := any_no fun j hj => hall j hj (by omega)
     rw [this] at hres
     simp -implicitDefEqProofs only [g1, g45, g46, g47, hlt', hres, Bool.false_eq_true, go_sem]
     exact s1.trans s4
  ·have hres : methodsP u = firstBad u.methods.length (badMeth u) := by simp only [methodsP, hcl, hfb, Bool.false_eq_true, if_false, ne_eq, not_false_eq_true, if_true]
   simp -implicitDefEqProofs only [g2, hres, go_sem]
   exact s1.trans s3
 ·have hres : methodsP u = 14 := by simp only [methodsP, hcl, if_true]
  simp -implicitDefEqProofs only [g2, hres, go_sem]
  exact s1.trans s2
set_option maxHeartbeats 4000000
def valP (u : UUnit) (v : Pr2) : Bool :=
 if v.1 = 0 ∨ v.1 = 1 ∨ v.1 = 2 then decide (v.2 = 0)
 else if v.1 = 3 then decide (-1073741824 ≤ v.2 ∧ v.2 ≤ 1073741823)
 else if v.1 = 4 then decide (0 ≤ v.2 ∧ v.2 < u.objects.length)
 else false
theorem c_value {H : AHeap} {u : UUnit} {cu : List AV} (h : UnE H u cu) (v : Pr2) : CW MN 74 [.agg (prC v), .agg cu] H fun w H' => w = .bool (valP u v) ∧ Sm H H' := by
 refine CW_of (fn := af74) rfl ?_
 dsimp only [af74, qm, q, qG, qn, qi, qb, qB, qk, qc, qo, qg, qv, qr]
 have s1 := Chg.newRow H (prC v)
 have r1 := Rd.newRow H (prC v)
 generalize eH1 : H.newRow (prC v) = H1 at r1 s1
 obtain ⟨v1, v2, v3, v4, bu, rfl⟩ := BoxU.of (MonoE.un _ _ _ _ h s1)
 have s2 := Chg.newRow H1 [v1, v2, v3, v4, .int .i64 u.main]
 generalize eH2 : H1.newRow [v1, v2, v3, v4, .int .i64 u.main] = H2 at bu s2
 have r2 := r1.keep (H' := H2) s2.1 (s2.gt r1.1)
 obtain ⟨a4, z4, c4, rfl, -⟩ := bu.objects.shape
 have l0 := r2.one (j := 0) rfl
 have l1 := r2.one (j := 1) rfl
 rw [Nat.zero_add] at l0 l1
 have n3 := bu.l3
 have s12 := s1.trans s2
 obtain ⟨k, n⟩ := v
 simp only [iv] at l0 l1
 by_cases k0 : k = 0
 ·subst k0
  simp -implicitDefEqProofs only [eH1, eH2, l0, l1, Int.reduceBEq, Bool.false_eq_true, go_sem]
  exact ⟨by simp [valP]; rfl, s12⟩
 ·have k0' : (k == 0) = false := by simpa using k0
  by_cases k1 : k = 1
  ·subst k1
   simp -implicitDefEqProofs only [eH1, eH2, l0, l1, Int.reduceBEq, Bool.false_eq_true, go_sem]
   exact ⟨by simp [valP]; rfl, s12⟩
  ·have k1' : (k == 1) = false := by simpa using k1
   by_cases k2 : k = 2
   ·subst k2
    simp -implicitDefEqProofs only [eH1, eH2, l0, l1, Int.reduceBEq, Bool.false_eq_true, go_sem]
    exact ⟨by simp [valP]; rfl, s12⟩
   ·have k2' : (k == 2) = false := by simpa using k2
    by_cases k3 : k = 3
    ·subst k3
     by_cases h1 : -1073741824 ≤ n
     ·simp -implicitDefEqProofs only [eH1, eH2, l0, l1, h1, Int.reduceBEq, Bool.false_eq_true, go_sem]
      exact ⟨by simp [valP, h1], s12⟩
     ·simp -implicitDefEqProofs only [eH1, eH2, l0, l1, h1, Int.reduceBEq, Bool.false_eq_true, go_sem]
      exact ⟨by simp [valP, h1], s12⟩
    ·have k3' : (k == 3) = false := by simpa using k3
     by_cases k4 : k = 4
     ·subst k4
      by_cases h1 : 0 ≤ n
      ·simp -implicitDefEqProofs only [eH1, eH2, l0, l1, n3, h1, Int.reduceBEq, Bool.false_eq_true, go_sem]
       exact ⟨by simp [valP, h1], s12⟩
      ·simp -implicitDefEqProofs only [eH1, eH2, l0, l1, n3, h1, Int.reduceBEq, Bool.false_eq_true, go_sem]
       exact ⟨by simp [valP, h1], s12⟩
     ·have k4' : (k == 4) = false := by simpa using k4
      simp -implicitDefEqProofs only [eH1, eH2, l0, l1, k0', k1', k2', k3', k4', Bool.false_eq_true, go_sem]
      exact ⟨by simp [valP, k0, k1, k2, k3, k4], s12⟩
theorem c_object1 {H : AHeap} {u : UUnit} {b : Nat} {v1 v2 v3 v4 : AV} (bu : BoxU H u b v1 v2 v3 v4) (v : Pr2) : CW MN 73 [.agg (prC v), .ptr (some (b, 0))] H fun w H' => w = .bool (!valP u v) ∧ Sm H H' := by
 refine CW_of (fn := af73) rfl ?_
 dsimp only [af73, qm, q, qG, qn, qi, qb, qB, qk, qc, qo, qg, qv, qr]
 have s1 := Chg.newRow H (prC v)
 have l1 := (Rd.newRow H (prC v)).load (n := 2) rfl
 have bu1 := bu.sm s1
 generalize eH1 : H.newRow (prC v) = H1 at l1 s1 bu1
 have la := bu1.all
 simp -implicitDefEqProofs only [eH1, l1, la, go_sem]
 refine CW.mono (c_value bu1.un v) ?_
 rintro w H2 ⟨rfl, s2⟩
 simp -implicitDefEqProofs only [go_sem]
 exact s1.trans s2
def objP (u : UUnit) (o : UObj) : Bool := decide (1 ≤ o.cls ∧ o.cls < u.classes.length ∧ o.fields.length ≤ 62 ∧ (1 < o.cls → (o.fields.length : Int) = (clAt u.classes o.cls).fields)) && o.fields.all (valP u)
structure BoxO (H : AHeap) (o : UObj) (b : Nat) (vf : AV) : Prop where
 lt : b < H.next
 all : loadA H b 0 2 = some [.int .i64 o.cls, vf]
 l0 : loadA H b 0 1 = some [.int .i64 o.cls]
 l1 : loadA H b 1 1 = some [vf]
 fields : SlE PrE 2 H o.fields [vf]
 ob : ObE H o [.int .i64 o.cls, vf]
theorem BoxO.sm {H H' : AHeap} {o : UObj} {b : Nat} {vf : AV} (h : BoxO H o b vf) (s : Sm H H') : BoxO H' o b vf :=
 ⟨Nat.lt_of_lt_of_le h.lt s.1, by rw [s.ld h.lt, h.all], by rw [s.ld h.lt, h.l0], by rw [s.ld h.lt, h.l1], MonoE.enc.sl _ _ _ _ h.fields s, MonoE.ob _ _ _ _ h.ob s⟩
theorem BoxO.of {H : AHeap} {o : UObj} {cs : List AV} (h : ObE H o cs) : ∃ vf, BoxO (H.newRow cs) o H.next vf ∧ cs = [.int .i64 o.cls, vf] := by
 obtain ⟨vf, rfl, h1, h2⟩ := h
 have s := Chg.newRow H [iv o.cls, vf]
 have r := Rd.newRow H [iv o.cls, vf]
 have r0 := r.one (j := 0) rfl
 have r1 := r.one (j := 1) rfl
 rw [Nat.zero_add] at r0 r1
 exact ⟨vf, ⟨r.1, r.load rfl, r0, r1, MonoE.enc.sl _ _ _ _ h2 s, vf, rfl, h1, MonoE.enc.sl _ _ _ _ h2 s⟩, rfl⟩
theorem any_not_all {α : Type} {p : α → Bool} {l : List α} : (l.any fun x => !p x) = !l.all p := by
 induction l with
 | nil => rfl
 | cons a l ih => simp [ih]
theorem c_object {H : AHeap} {u : UUnit} {cu : List AV} (hu : UnE H u cu) {o : UObj} {co : List AV} (h : ObE H o co) : CW MN 31 [.agg co, .agg cu] H fun w H' => w = .bool (objP u o) ∧ Sm H H' := by
 refine CW_of (fn := af31) rfl ?_
 dsimp only [af31, qm, q, qG, qn, qi, qb, qB, qk, qc, qo, qg, qv, qr]
 obtain ⟨vf, bo, rfl⟩ := BoxO.of h
 have s1 := Chg.newRow H [.int .i64 o.cls, vf]
 have hn1 : (H.newRow [.int .i64 o.cls, vf]).next = H.next + 1 := rfl
 generalize eH1 : H.newRow [.int .i64 o.cls, vf] = H1 at bo s1 hn1
 obtain ⟨v1, v2, v3, v4, bu, rfl⟩ := BoxU.of (MonoE.un _ _ _ _ hu s1)
 have s2 := Chg.newRow H1 [v1, v2, v3, v4, .int .i64 u.main]
 generalize eH2 : H1.newRow [v1, v2, v3, v4, .int .i64 u.main] = H2 at bu s2
 have bo := bo.sm s2
 obtain ⟨a2, z2, c2, rfl, -⟩ := bu.classes.shape
 obtain ⟨af, zf, cf, rfl, -⟩ := bo.fields.shape
 have l0 := bo.l0; have l1 := bo.l1; have n1 := bu.l1
 have s12 := s1.trans s2
 by_cases h1 : o.cls < 1
 ·have e : objP u o = false := by simp [objP]; omega
  simp -implicitDefEqProofs only [eH1, eH2, l0, l1, n1, h1, e, go_sem]
  exact s12
 ·by_cases h2 : (u.classes.length : Int) ≤ o.cls
  ·have e : objP u o = false := by simp [objP]; omega
   simp -implicitDefEqProofs only [eH1, eH2, l0, l1, n1, h1, h2, e, Bool.false_eq_true, go_sem]
   exact s12
  ·by_cases h3 : (62 : Int) < (o.fields.length : Int)
   ·have e : objP u o = false := by simp [objP]; omega
    simp -implicitDefEqProofs only [eH1, eH2, l0, l1, n1, h1, h2, h3, e, Bool.false_eq_true, go_sem]
    exact s12
   ·obtain ⟨k, hk⟩ : ∃ k : Nat, o.cls = k := ⟨o.cls.toNat, by omega⟩
    have kl : k < u.classes.length := by omega
    have k0 : (0 : Int) ≤ (k : Int) := by omega
    have kl' : (k : Int) < (u.classes.length : Int) := by omega
    obtain ⟨x, p, vb, rfl, rfl, -, -, -, lf, -⟩ := ClE.at bu.classes kl
    simp only [iv] at lf
    have eck : clAt u.classes (k : Int) = u.classes[k] := clAt_nat kl
    have fin : ∀ {b : Bool}, b = objP u o → (∀ G, Sm H2 G → AV.bool b = AV.bool (objP u o) ∧ Sm H G) := fun e G hG => ⟨by rw [e], s12.trans hG⟩
    have cont : (1 < o.cls → (o.fields.length : Int) = (clAt u.classes o.cls).fields) → CW MN 72 [.slice af zf o.fields.length cf, .func (.func 73) [] [.ptr (some (H1.next, 0))]] H2 fun w H' => w = .bool (!objP u o) ∧ Sm H2 H' := fun hc => by
     refine (c_contF (f := 101) (f' := 72) (s := 2) rfl rfl MonoE.enc bo.fields (p := fun v => !valP u v) ?_).mono ?_
     ·rintro j hj r G s ⟨rfl, -⟩ -
      exact c_object1 (bu.sm s) _
     ·rintro w G ⟨rfl, s⟩
      refine ⟨?_, s⟩
      have e : objP u o = o.fields.all (valP u) := by
       have : 1 ≤ o.cls ∧ o.cls < u.classes.length ∧ o.fields.length ≤ 62 ∧ (1 < o.cls → (o.fields.length : Int) = (clAt u.classes o.cls).fields) := ⟨by omega, by omega, by omega, hc⟩
       rw [objP, decide_eq_true this, Bool.true_and]
      rw [e, any_not_all]
    rw [hk] at l0 h1 h2
    by_cases h4 : (1 : Int) < (k : Int)
    ·by_cases h5 : (o.fields.length : Int) = u.classes[k].fields
     ·have h5' : ((o.fields.length : Int) != u.classes[k].fields) = false := by simp [h5]
      simp -implicitDefEqProofs only [eH1, eH2, l0, l1, n1, h1, h2, h3, h4, k0, kl', lf, h5', Bool.false_eq_true, go_sem]
      refine CW.mono (cont fun _ => by rw [hk, eck]; exact h5) ?_
      rintro w G ⟨rfl, s⟩
      simp -implicitDefEqProofs only [Bool.not_not, go_sem]
      exact s12.trans s
     ·have h5' : ((o.fields.length : Int) != u.classes[k].fields) = true := by simpa using h5
      have e : objP u o = false := by
       have : ¬ (1 ≤ o.cls ∧ o.cls < u.classes.length ∧ o.fields.length ≤ 62 ∧ (1 < o.cls → (o.fields.length : Int) = (clAt u.classes o.cls).fields)) := by
        rintro ⟨-, -, -, hc⟩
        have := hc (by omega)
        rw [hk, eck] at this
        exact h5 this
       simp only [objP, this, decide_false, Bool.false_and]
      simp -implicitDefEqProofs only [eH1, eH2, l0, l1, n1, h1, h2, h3, h4, k0, kl', lf, h5', e, Bool.false_eq_true, go_sem]
      exact s12
    ·simp -implicitDefEqProofs only [eH1, eH2, l0, l1, n1, h1, h2, h3, h4, Bool.false_eq_true, go_sem]
     refine CW.mono (cont fun hc => by omega) ?_
     rintro w G ⟨rfl, s⟩
     simp -implicitDefEqProofs only [Bool.not_not, go_sem]
     exact s12.trans s
theorem c_unitRight1 {H : AHeap} {u : UUnit} {b : Nat} {v1 v2 v3 v4 : AV} (bu : BoxU H u b v1 v2 v3 v4) {o : UObj} {co : List AV} (h : ObE H o co) : CW MN 30 [.agg co, .ptr (some (b, 0))] H fun w H' => w = .bool (!objP u o) ∧ Sm H H' := by
 refine CW_of (fn := af30) rfl ?_
 dsimp only [af30, qm, q, qG, qn, qi, qb, qB, qk, qc, qo, qg, qv, qr]
 obtain ⟨vf, bo, rfl⟩ := BoxO.of h
 have s1 := Chg.newRow H [.int .i64 o.cls, vf]
 have bu1 := bu.sm s1
 generalize eH1 : H.newRow [.int .i64 o.cls, vf] = H1 at bo s1 bu1
 have la := bu1.all
 have lo := bo.all
 simp -implicitDefEqProofs only [eH1, lo, la, go_sem]
 refine CW.mono (c_object bu1.un bo.ob) ?_
 rintro w H2 ⟨rfl, s2⟩
 simp -implicitDefEqProofs only [go_sem]
 exact s1.trans s2
def sizesP (u : UUnit) : Bool := decide (u.names.length ≤ 48 ∧ 1 ≤ u.methods.length ∧ u.methods.length ≤ 32 ∧ 1 ≤ u.objects.length ∧ u.objects.length ≤ 40)
def mainP (u : UUnit) : Bool := decide (0 ≤ u.main ∧ u.main < u.methods.length) && decide ((mAt u u.main.toNat).args = 0)
def unitP (u : UUnit) : Int :=
 if sizesP u = false then 3
 else if namesP u.names = false then 13
 else if shapeP u.classes u.names.length u.methods.length ≠ 0 then shapeP u.classes u.names.length u.methods.length
 else if methodsP u ≠ 0 then methodsP u
 else if u.objects.all (objP u) = false then 16
 else if mainP u = false then 15 else 0
theorem least_bad {n : Nat} {f : Nat → Int} (h : ¬ ∀ j, j < n → f j = 0) : ∃ i, i < n ∧ f i ≠ 0 ∧ ∀ j, j < i → f j = 0 := by
 have h1 : ∃ i, i < n ∧ f i ≠ 0 := Classical.byContradiction fun hc => h fun j hj => Classical.byContradiction fun hj' => hc ⟨j, hj, hj'⟩
 obtain ⟨i, hi, hb⟩ := h1
 induction i using Nat.strongRecOn with
 | _ i ih =>
  by_cases hp : ∃ j, j < i ∧ f j ≠ 0
  ·obtain ⟨j, hj, hb'⟩ := hp
   exact ih j hj (by omega) hb'
  ·exact ⟨i, hi, hb, fun j hj => Classical.byContradiction fun hc => hp ⟨j, hj, hc⟩⟩
theorem firstBad_zero {n : Nat} {f : Nat → Int} (h : firstBad n f = 0) : ∀ j, j < n → f j = 0 := by
 by_cases hz : ∀ j, j < n → f j = 0
 ·exact hz
 ·obtain ⟨k, hk, hkb, hkl⟩ := least_bad hz
  rw [firstBad_at hkl hk hkb] at h
  exact absurd h hkb
theorem shapeP_all {l : List UClass} {n m : Int} (h : shapeP l n m = 0) : (¬ (l.length < 2 ∨ 12 < l.length)) ∧ ∀ i, i < l.length → classAt l n m i = 0 := by
 unfold shapeP at h
 split at h
 ·cases h
 ·rename_i h1
  split at h
  ·cases h
  ·exact ⟨h1, firstBad_zero h⟩
theorem classAt_zero {l : List UClass} {n m : Int} {i : Nat} (hi : i < l.length) (h : classAt l n m i = 0) : superP l i = true ∧ bindsP l[i].binds n m = true := by
 rw [classAt_nat hi] at h
 split at h
 ·cases h
 ·split at h
  ·cases h
  ·rename_i h2
   split at h
   ·cases h
   ·rename_i h3
    exact ⟨by simpa using h2, by simpa using h3⟩
theorem shapeP_binds {u : UUnit} (h : shapeP u.classes u.names.length u.methods.length = 0) : bindsOk u := by
 intro c hc b hb
 obtain ⟨i, hi, rfl⟩ := List.getElem_of_mem hc
 obtain ⟨-, h2⟩ := classAt_zero hi ((shapeP_all h).2 i hi)
 obtain ⟨j, hj, rfl⟩ := List.getElem_of_mem hb
 rw [bindsP, Bool.and_eq_true] at h2
 have h3 := List.all_eq_true.1 h2.1 j (List.mem_range.2 hj)
 rw [bindAt_nat hj, Bool.and_eq_true] at h3
 have h4 := h3.1
 simp only [okB, Bool.and_eq_true, decide_eq_true_eq] at h4
 omega
theorem c_unitRight {H : AHeap} {u : UUnit} {cu : List AV} (hu : UnE H u cu) : CW MN 11 [.agg cu] H fun w H' => w = .int .i64 (unitP u) ∧ Sm H H' := by
 refine CW_of (fn := af11) rfl ?_
 dsimp only [af11, qm, q, qG, qn, qi, qb, qB, qk, qc, qo, qg, qv, qr]
 obtain ⟨v1, v2, v3, v4, bu, rfl⟩ := BoxU.of hu
 have s1 := Chg.newRow H [v1, v2, v3, v4, .int .i64 u.main]
 generalize eH1 : H.newRow [v1, v2, v3, v4, .int .i64 u.main] = H1 at bu s1
 obtain ⟨a1, z1, c1, rfl, -⟩ := bu.names.shape
 obtain ⟨a2, z2, c2, rfl, -⟩ := bu.classes.shape
 obtain ⟨a3, z3, c3, rfl, -⟩ := bu.methods.shape
 obtain ⟨a4, z4, c4, rfl, -⟩ := bu.objects.shape
 have l0 := bu.l0; have l1 := bu.l1; have l2 := bu.l2; have l3 := bu.l3
 cases hsz : sizesP u with
 | false =>
  have hr : unitP u = 3 := by simp [unitP, hsz]
  have hs' : ¬ (u.names.length ≤ 48 ∧ 1 ≤ u.methods.length ∧ u.methods.length ≤ 32 ∧ 1 ≤ u.objects.length ∧ u.objects.length ≤ 40) := by simpa [sizesP] using hsz
  by_cases d1 : (48 : Int) < (u.names.length : Int)
  ·simp -implicitDefEqProofs only [eH1, l0, d1, hr, go_sem]
   exact s1
  ·by_cases d2 : (u.methods.length : Int) < 1
   ·simp -implicitDefEqProofs only [eH1, l0, l2, d1, d2, hr, Bool.false_eq_true, go_sem]
    exact s1
   ·by_cases d3 : (32 : Int) < (u.methods.length : Int)
    ·simp -implicitDefEqProofs only [eH1, l0, l2, d1, d2, d3, hr, Bool.false_eq_true, go_sem]
     exact s1
    ·by_cases d4 : (u.objects.length : Int) < 1
     ·simp -implicitDefEqProofs only [eH1, l0, l2, l3, d1, d2, d3, d4, hr, Bool.false_eq_true, go_sem]
      exact s1
     ·have d5 : (40 : Int) < (u.objects.length : Int) := by omega
      simp -implicitDefEqProofs only [eH1, l0, l2, l3, d1, d2, d3, d4, d5, hr, Bool.false_eq_true, go_sem]
      exact s1
 | true =>
  have hs' : u.names.length ≤ 48 ∧ 1 ≤ u.methods.length ∧ u.methods.length ≤ 32 ∧ 1 ≤ u.objects.length ∧ u.objects.length ≤ 40 := by simpa [sizesP] using hsz
  have d1 : ¬ (48 : Int) < (u.names.length : Int) := by omega
  have d2 : ¬ (u.methods.length : Int) < 1 := by omega
  have d3 : ¬ (32 : Int) < (u.methods.length : Int) := by omega
  have d4 : ¬ (u.objects.length : Int) < 1 := by omega
  have d5 : ¬ (40 : Int) < (u.objects.length : Int) := by omega
  simp -implicitDefEqProofs only [eH1, l0, l2, l3, d1, d2, d3, d4, d5, Bool.false_eq_true, go_sem]
  refine CW.mono (c_names bu.names (by omega)) ?_
  rintro w H2 ⟨rfl, s2⟩
  have s12 := s1.trans s2
  cases hnm : namesP u.names with
  | false =>
   have hr : unitP u = 13 := by simp [unitP, hsz, hnm]
   have e13 : ((13 : Int) != 0) = true := rfl
   simp -implicitDefEqProofs only [e13, hr, Bool.false_eq_true, go_sem]
   exact s12
  | true =>
   have bu := bu.sm s2
   have l0 := bu.l0; have l1 := bu.l1; have l2 := bu.l2
   simp -implicitDefEqProofs only [l0, l1, l2, bne_self_eq_false, Bool.false_eq_true, go_sem]
   refine CW.mono (c_shapeRight bu.classes (u.names.length : Int) (u.methods.length : Int)) ?_
   rintro w H3 ⟨rfl, s3⟩
   have s13 := s12.trans s3
   by_cases hsh : shapeP u.classes u.names.length u.methods.length = 0
   ·have hsh' : (shapeP u.classes u.names.length u.methods.length != 0) = false := by simpa using hsh
    have bu := bu.sm s3
    have la := bu.all
    simp -implicitDefEqProofs only [hsh', la, Bool.false_eq_true, go_sem]
    refine CW.mono (c_methods bu.un (shapeP_binds hsh)) ?_
    rintro w H4 ⟨rfl, s4⟩
    have s14 := s13.trans s4
    by_cases hme : methodsP u = 0
    ·have hme' : (methodsP u != 0) = false := by simpa using hme
     have bu := bu.sm s4
     have l3 := bu.l3
     simp -implicitDefEqProofs only [hme', l3, Bool.false_eq_true, go_sem]
     refine CW.mono (c_contF (f := 71) (f' := 29) (s := 2) rfl rfl MonoE.ob bu.objects (p := fun o => !objP u o) ?_) ?_
     ·rintro j hj r G s ho -
      exact c_unitRight1 (bu.sm s) ho
     rintro w H5 ⟨rfl, s5⟩
     have s15 := s14.trans s5
     rw [any_not_all]
     cases hob : u.objects.all (objP u) with
     | false =>
      have hr : unitP u = 16 := by simp only [unitP, hsz, hnm, hsh, hme, hob, Bool.true_eq_false, if_false, ne_eq, not_true_eq_false, if_true]
      simp -implicitDefEqProofs only [hr, Bool.not_false, go_sem]
      exact s15
     | true =>
      have hres : unitP u = if mainP u = false then 15 else 0 := by simp only [unitP, hsz, hnm, hsh, hme, hob, Bool.true_eq_false, if_false, ne_eq, not_true_eq_false]
      have bu := bu.sm s5
      have l4 := bu.l4; have l2 := bu.l2
      by_cases m0 : u.main < 0
      ·have hm : mainP u = false := by simp [mainP]; omega
       rw [hm] at hres
       simp -implicitDefEqProofs only [l4, m0, hres, Bool.not_true, Bool.false_eq_true, go_sem]
       exact s15
      ·by_cases m1 : (u.methods.length : Int) ≤ u.main
       ·have hm : mainP u = false := by simp [mainP]; omega
        rw [hm] at hres
        simp -implicitDefEqProofs only [l4, l2, m0, m1, hres, Bool.not_true, Bool.false_eq_true, go_sem]
        exact s15
       ·obtain ⟨k, hk⟩ : ∃ k : Nat, u.main = k := ⟨u.main.toNat, by omega⟩
        have kl : k < u.methods.length := by omega
        have k0 : (0 : Int) ≤ (k : Int) := by omega
        have kl' : (k : Int) < (u.methods.length : Int) := by omega
        obtain ⟨xm, om, rm, rfl, rfl, -, -, ⟨wl, wc, rfl, -⟩, rdm⟩ := bu.methods.at kl
        have lda := rdm.one (j := 0) rfl
        rw [Nat.add_zero] at lda
        simp only [iv] at lda
        have hm : mainP u = decide (u.methods[k].args = 0) := by
         have : 0 ≤ u.main ∧ u.main < u.methods.length := by omega
         rw [mainP, decide_eq_true this, Bool.true_and, hk, Int.toNat_natCast, mAt_nat kl]
        rw [hm] at hres
        rw [hk] at l4 m0 m1
        by_cases ha : u.methods[k].args = 0
        ·have ha' : (u.methods[k].args != 0) = false := by simpa using ha
         rw [decide_eq_true ha] at hres
         simp -implicitDefEqProofs only [l4, l2, m0, m1, k0, kl', lda, ha', hres, Bool.not_true, Bool.true_eq_false, Bool.false_eq_true, go_sem]
         exact s15
        ·have ha' : (u.methods[k].args != 0) = true := by simpa using ha
         rw [decide_eq_false ha] at hres
         simp -implicitDefEqProofs only [l4, l2, m0, m1, k0, kl', lda, ha', hres, Bool.not_true, Bool.false_eq_true, go_sem]
         exact s15
    ·have hme' : (methodsP u != 0) = true := by simpa using hme
     have hr : unitP u = methodsP u := by simp only [unitP, hsz, hnm, hsh, hme, Bool.true_eq_false, if_false, ne_eq, not_true_eq_false, not_false_eq_true, if_true]
     simp -implicitDefEqProofs only [hme', hr, go_sem]
     exact s14
   ·have hsh' : (shapeP u.classes u.names.length u.methods.length != 0) = true := by simpa using hsh
    have hr : unitP u = shapeP u.classes u.names.length u.methods.length := by simp only [unitP, hsz, hnm, hsh, Bool.true_eq_false, if_false, ne_eq, not_false_eq_true, if_true]
    simp -implicitDefEqProofs only [hsh', hr, go_sem]
    exact s13
set_option maxHeartbeats 4000000
theorem argsP_n2 (s : List Nat) : 0 ≤ argsP s ↔ rightP s = true := by
 unfold argsP
 constructor
 ·intro h
  by_cases hr : rightP s = true
  ·exact hr
  ·rw [if_neg hr] at h; omega
 ·intro h
  rw [if_pos h]
  split <;> omega
theorem c_rnames {H : AHeap} {l : List (List Nat)} {v : AV} (h : SlE StE 1 H l [v]) : CW MN 75 [v] H fun w H' => w = .bool (namesP l) ∧ H' = H := by
 refine CW_of (fn := af75) rfl ?_
 obtain ⟨a, s0, cl, rfl, -⟩ := h.shape
 have hmax := h.max
 dsimp only [af75, qm, q, qG, qn, qi, qb, qB, qk, qc, qo, qg, qv, qr]
 simp -implicitDefEqProofs only [go_sem]
 refine WP_loop (fun k fr H' => ∃ i : Nat, k = l.length - i ∧ i ≤ l.length ∧ (∀ j, j < i → nameAt l j = true) ∧ fr.get 0 = some (.slice a s0 l.length cl) ∧ fr.get 7 = some (.slice a s0 l.length cl) ∧ fr.get 8 = some (.int .i64 l.length) ∧ fr.get 9 = some (.int .i64 i) ∧ H' = H) l.length ?_ ?_
 ·refine ⟨0, rfl, by omega, fun j hj => by omega, ?_⟩
  simp -implicitDefEqProofs only [go_sem]
 ·rintro k fr H2 ⟨i, hk, hi, hall, g0, g7, g8, g9, rfl⟩
  have i0 : (0 : Int) ≤ (i : Int) := by omega
  by_cases hlt : i < l.length
  ·have hlt' : (i : Int) < (l.length : Int) := by omega
   have hw := wrapS hlt hmax
   obtain ⟨x, o, rfl, rfl, ld, hok, -⟩ := StE.at h hlt
   obtain ⟨e1, e2⟩ := h.pre (k := i) (by omega)
   have hna := nameAt_nat hlt
   have bad : nameAt l i = false → namesP l = false := namesP_bad hlt
   generalize l[i] = s at ld hok hna
   simp -implicitDefEqProofs only [g0, g7, g8, g9, hlt', i0, ld, go_sem]
   refine CW.mono (c_ArgsR hok.1) ?_
   rintro w H3 ⟨rfl, rfl⟩
   by_cases ha : argsP s < 0
   ·have hr : rightP s = false := by
     cases hh : rightP s
     ·rfl
     ·have := (argsP_n2 s).2 hh; omega
    rw [hr, Bool.false_and] at hna
    simp -implicitDefEqProofs only [ha, bad hna, go_sem]
   ·have hr : rightP s = true := (argsP_n2 s).1 (by omega)
    rw [hr, Bool.true_and] at hna
    have htl : (l.take i).length = i := by simp; omega
    simp -implicitDefEqProofs only [g0, g7, g8, g9, ha, e1, Bool.false_eq_true, go_sem]
    refine WP_mono (Q := fun ex fr H' => ex = .exit 2 ∧ ((l.take i).any fun x => x == s) = false ∧ fr.get 0 = some (.slice (some (x, o)) 1 l.length cl) ∧ fr.get 7 = some (.slice (some (x, o)) 1 l.length cl) ∧ fr.get 8 = some (.int .i64 l.length) ∧ fr.get 9 = some (.int .i64 i) ∧ H' = H3 ∨ ex = .ret ∧ ((l.take i).any fun x => x == s) = true ∧ fr.get 2 = some (.bool false) ∧ H' = H3) ?_ (WP_loop (fun k fr H' => ∃ j : Nat, k = i - j ∧ j ≤ i ∧ (∀ q (hq : q < (l.take i).length), q < j → ((l.take i)[q] == s) = false) ∧ fr.get 0 = some (.slice (some (x, o)) 1 l.length cl) ∧ fr.get 4 = some (.str s) ∧ fr.get 7 = some (.slice (some (x, o)) 1 l.length cl) ∧ fr.get 8 = some (.int .i64 l.length) ∧ fr.get 9 = some (.int .i64 i) ∧ fr.get 19 = some (.slice (some (x, o)) 1 i (cl && decide (i = l.length))) ∧ fr.get 20 = some (.int .i64 i) ∧ fr.get 21 = some (.int .i64 j) ∧ H' = H3) i ?_ ?_)
    rotate_left
    ·refine ⟨0, rfl, by omega, fun q hq hq' => by omega, ?_⟩
     simp -implicitDefEqProofs only [g0, g7, g8, g9, go_sem]
    ·rintro k fr H4 ⟨j, hk, hj, hno, q0, q4, q7, q8, q9, q19, q20, q21, rfl⟩
     have j0 : (0 : Int) ≤ (j : Int) := by omega
     by_cases hji : j < i
     ·have hji' : (j : Int) < (i : Int) := by omega
      have hwj : IntKind.i64.wrap ((j : Int) + 1) = ((j + 1 : Nat) : Int) := by rw [wrap64 (by omega) (by omega)]; omega
      obtain ⟨x', o', e', -, ldj, -⟩ := StE.at e2 (i := j) (by omega)
      cases e'
      by_cases hq : (l.take i)[j]'(by omega) = s
      ·have hq' : ((l.take i)[j]'(by omega) == s) = true := by simpa using hq
       simp -implicitDefEqProofs only [q0, q4, q7, q8, q9, q19, q20, q21, hji', j0, ldj, hq', go_sem]
       exact .inr (any_at (i := j) (by omega) hq')
      ·have hq' : ((l.take i)[j]'(by omega) == s) = false := by simpa using hq
       simp -implicitDefEqProofs only [q0, q4, q7, q8, q9, q19, q20, q21, hji', j0, ldj, hq', hwj, Bool.false_eq_true, go_sem]
       refine ⟨i - (j + 1), by omega, j + 1, rfl, by omega, fun q hql hqj => ?_, rfl⟩
       by_cases e : q = j
       ·subst e; exact hq'
       ·exact hno q hql (by omega)
     ·have hji' : ¬ (j : Int) < (i : Int) := by omega
      simp -implicitDefEqProofs only [q0, q4, q7, q8, q9, q19, q20, q21, hji', Bool.false_eq_true, go_sem]
      exact .inl (any_no fun q hq => hno q hq (by omega))
    rintro ex fr H4 (⟨rfl, hany, q0, q7, q8, q9, rfl⟩ | ⟨rfl, hany, q2, rfl⟩)
    ·rw [hany] at hna
     simp -implicitDefEqProofs only [q0, q7, q8, q9, hw, go_sem]
     refine ⟨l.length - (i + 1), by omega, i + 1, rfl, by omega, fun j hj => ?_, rfl⟩
     by_cases e : j = i
     ·subst e; rw [hna]; rfl
     ·exact hall j (by omega)
    ·rw [hany] at hna
     simp -implicitDefEqProofs only [q2, bad hna, go_sem]
  ·have hlt' : ¬ (i : Int) < (l.length : Int) := by omega
   have := namesP_all fun j hj => hall j (by omega)
   simp -implicitDefEqProofs only [g0, g7, g8, g9, hlt', this, Bool.false_eq_true, go_sem]
theorem c_rbinds {H : AHeap} {l : List Pr2} {v : AV} {n m : Int} (h : SlE PrE 2 H l [v]) : CW MN 104 [v, .int .i64 n, .int .i64 m] H fun u H' => u = .bool (bindsP l n m) ∧ Sm H H' := by
 refine CW_of (fn := af104) rfl ?_
 obtain ⟨a, s0, cl, rfl, -⟩ := h.shape
 have hmax := h.max
 dsimp only [af104, qm, q, qG, qn, qi, qb, qB, qk, qc, qo, qg, qv, qr]
 simp -implicitDefEqProofs only [go_sem]
 refine WP_loop (fun k fr H' => ∃ i : Nat, k = l.length - i ∧ i ≤ l.length ∧ (∀ j, j < i → bindAt l n m j = true) ∧ fr.get 0 = some (.slice a s0 l.length cl) ∧ fr.get 1 = some (.int .i64 n) ∧ fr.get 2 = some (.int .i64 m) ∧ fr.get 11 = some (.slice a s0 l.length cl) ∧ fr.get 12 = some (.int .i64 l.length) ∧ fr.get 13 = some (.int .i64 i) ∧ Sm H H') l.length ?_ ?_
 ·refine ⟨0, rfl, by omega, fun j hj => by omega, ?_⟩
  simp -implicitDefEqProofs only [go_sem]
  exact Chg.refl H
 ·rintro k fr H1 ⟨i, hk, hi, hall, g0, g1, g2, g11, g12, g13, s1⟩
  have i0 : (0 : Int) ≤ i := by omega
  by_cases hlt : i < l.length
  ·have hlt' : (i : Int) < (l.length : Int) := by omega
   have hw := wrapS hlt hmax
   have h1 := MonoE.enc.sl _ _ _ _ h s1
   obtain ⟨x, o, rfl, rfl, ld, -, -, -, -, hx⟩ := PrE.at h1 hlt
   have hbi := bindAt_nat (n := n) (m := m) hlt
   obtain ⟨e1, e2⟩ := h1.pre (k := i) (by omega)
   obtain ⟨H2, q1, q2, s2, r2⟩ := store_new H1 [.int .i64 0, .int .i64 0] [.int .i64 l[i].1, .int .i64 l[i].2] rfl
   have lf := r2.one (j := 0) rfl
   have lg := r2.one (j := 1) rfl
   rw [Nat.zero_add] at lf lg
   have s12 := s1.trans s2
   have e22 := MonoE.enc.sl _ _ _ _ e2 s2
   have bad : bindAt l n m i = false → bindsP l n m = false := bindsP_bad hlt
   have htl : (l.take i).length = i := by simp; omega
   generalize l[i] = p at ld hbi q1 lf lg
   obtain ⟨p1, p2⟩ := p
   dsimp only at *
   by_cases c1 : p1 < 0
   ·simp -implicitDefEqProofs only [g0, g1, g2, g11, g12, g13, i0, hlt', ld, q1, lf, lg, c1, go_sem]
    exact ⟨by rw [bad (by rw [hbi]; simp [okB]; omega)], s12⟩
   ·by_cases c2 : n ≤ p1
    ·simp -implicitDefEqProofs only [g0, g1, g2, g11, g12, g13, i0, hlt', ld, q1, lf, lg, c1, c2, Bool.false_eq_true, go_sem]
     exact ⟨by rw [bad (by rw [hbi]; simp [okB]; omega)], s12⟩
    ·by_cases c3 : p2 < 0
     ·simp -implicitDefEqProofs only [g0, g1, g2, g11, g12, g13, i0, hlt', ld, q1, lf, lg, c1, c2, c3, Bool.false_eq_true, go_sem]
      exact ⟨by rw [bad (by rw [hbi]; simp [okB]; omega)], s12⟩
     ·by_cases c4 : m ≤ p2
      ·simp -implicitDefEqProofs only [g0, g1, g2, g11, g12, g13, i0, hlt', ld, q1, lf, lg, c1, c2, c3, c4, Bool.false_eq_true, go_sem]
       exact ⟨by rw [bad (by rw [hbi]; simp [okB]; omega)], s12⟩
      ·have hok : okB n m (p1, p2) = true := by simp [okB]; omega
       rw [hok, Bool.true_and] at hbi
       simp -implicitDefEqProofs only [g0, g1, g2, g11, g12, g13, i0, hlt', ld, q1, lf, lg, c1, c2, c3, c4, e1, Bool.false_eq_true, go_sem]
       refine WP_mono (Q := fun ex fr H' => ex = .exit 2 ∧ ((l.take i).any fun x => x.1 == p1) = false ∧ fr.get 0 = some (.slice (some (x, o)) 2 l.length cl) ∧ fr.get 1 = some (.int .i64 n) ∧ fr.get 2 = some (.int .i64 m) ∧ fr.get 11 = some (.slice (some (x, o)) 2 l.length cl) ∧ fr.get 12 = some (.int .i64 l.length) ∧ fr.get 13 = some (.int .i64 i) ∧ Sm H2 H' ∨ ex = .ret ∧ ((l.take i).any fun x => x.1 == p1) = true ∧ fr.get 6 = some (.bool false) ∧ Sm H2 H') ?_ (WP_loop (fun k fr H' => ∃ j : Nat, k = i - j ∧ j ≤ i ∧ (∀ q (hq : q < (l.take i).length), q < j → ((l.take i)[q].1 == p1) = false) ∧ fr.get 0 = some (.slice (some (x, o)) 2 l.length cl) ∧ fr.get 1 = some (.int .i64 n) ∧ fr.get 2 = some (.int .i64 m) ∧ fr.get 8 = some (.ptr (some (H1.next, 0))) ∧ fr.get 11 = some (.slice (some (x, o)) 2 l.length cl) ∧ fr.get 12 = some (.int .i64 l.length) ∧ fr.get 13 = some (.int .i64 i) ∧ fr.get 40 = some (.slice (some (x, o)) 2 i (cl && decide (i = l.length))) ∧ fr.get 41 = some (.int .i64 i) ∧ fr.get 42 = some (.int .i64 j) ∧ Sm H2 H') i ?_ ?_)
       rotate_left
       ·refine ⟨0, rfl, by omega, fun q hq hq' => by omega, ?_⟩
        simp -implicitDefEqProofs only [g0, g1, g2, g11, g12, g13, go_sem]
        exact Chg.refl H2
       ·rintro k fr H4 ⟨j, hk, hj, hno, q0, q1, q2', q8, q11, q12, q13, q40, q41, q42, s4⟩
        have j0 : (0 : Int) ≤ (j : Int) := by omega
        by_cases hji : j < i
        ·have hji' : (j : Int) < (i : Int) := by omega
         have hwj : IntKind.i64.wrap ((j : Int) + 1) = ((j + 1 : Nat) : Int) := by rw [wrap64 (by omega) (by omega)]; omega
         obtain ⟨x', o', e', -, ldj, -⟩ := PrE.at (MonoE.enc.sl _ _ _ _ e22 s4) (i := j) (by omega)
         cases e'
         obtain ⟨H5, u1, u2, s5, r5⟩ := store_new H4 [.int .i64 0, .int .i64 0] [.int .i64 ((l.take i)[j]'(by omega)).1, .int .i64 ((l.take i)[j]'(by omega)).2] rfl
         have lk := r5.one (j := 0) rfl
         rw [Nat.zero_add] at lk
         have lf5 : loadA H5 H1.next 0 1 = some [.int .i64 p1] := by rw [(s4.trans s5).ld (by omega), lf]
         by_cases hq : ((l.take i)[j]'(by omega)).1 = p1
         ·have hq' : (((l.take i)[j]'(by omega)).1 == p1) = true := by simpa using hq
          simp -implicitDefEqProofs only [q0, q1, q2', q8, q11, q12, q13, q40, q41, q42, hji', j0, ldj, u1, lk, lf5, hq', go_sem]
          exact .inr ⟨any_at (i := j) (by omega) hq', s4.trans s5⟩
         ·have hq' : (((l.take i)[j]'(by omega)).1 == p1) = false := by simpa using hq
          simp -implicitDefEqProofs only [q0, q1, q2', q8, q11, q12, q13, q40, q41, q42, hji', j0, ldj, u1, lk, lf5, hq', hwj, Bool.false_eq_true, go_sem]
          refine ⟨i - (j + 1), by omega, j + 1, rfl, by omega, fun q hql hqj => ?_, rfl, s4.trans s5⟩
          by_cases e : q = j
          ·subst e; exact hq'
          ·exact hno q hql (by omega)
        ·have hji' : ¬ (j : Int) < (i : Int) := by omega
         simp -implicitDefEqProofs only [q0, q1, q2', q8, q11, q12, q13, q40, q41, q42, hji', Bool.false_eq_true, go_sem]
         exact .inl ⟨any_no fun q hq => hno q hq (by omega), s4⟩
       rintro ex fr H4 (⟨rfl, hany, g0, g1, g2, g11, g12, g13, s4⟩ | ⟨rfl, hany, g6, s4⟩)
       ·rw [hany] at hbi
        simp -implicitDefEqProofs only [g0, g1, g2, g11, g12, g13, hw, go_sem]
        refine ⟨l.length - (i + 1), by omega, i + 1, rfl, by omega, fun j hj => ?_, rfl, s12.trans s4⟩
        by_cases e : j = i
        ·subst e; rw [hbi]; rfl
        ·exact hall j (by omega)
       ·rw [hany] at hbi
        simp -implicitDefEqProofs only [g6, go_sem]
        exact ⟨by rw [bad (by rw [hbi]; rfl)], s12.trans s4⟩
  ·have hlt' : ¬ (i : Int) < (l.length : Int) := by omega
   have hb := bindsP_all fun j hj => hall j (by omega)
   by_cases h16 : l.length ≤ 16
   ·have h16' : (l.length : Int) ≤ 16 := by omega
    simp -implicitDefEqProofs only [g0, g1, g2, g11, g12, g13, hlt', hb, h16, h16', Bool.false_eq_true, go_sem]
    exact s1
   ·have h16' : ¬ (l.length : Int) ≤ 16 := by omega
    simp -implicitDefEqProofs only [g0, g1, g2, g11, g12, g13, hlt', hb, h16, h16', Bool.false_eq_true, go_sem]
    exact s1
set_option maxHeartbeats 4000000
theorem chainN_cut : ∀ (n m : Nat) (l : List UClass) (k : Int), m ≤ n → (chainN n l k).length = n → (chainN m l k).length = m
 | n, 0, l, k, _, _ => rfl
 | 0, m + 1, l, k, h, _ => by omega
 | n + 1, m + 1, l, k, h, hl => by
  unfold chainN at hl ⊢
  split at hl
  ·rename_i hk
   rw [if_pos hk]
   simp only [List.length_cons] at hl ⊢
   rw [chainN_cut n m l _ (by omega) (by omega)]
  ·simp at hl
def supsOk (l : List UClass) (i : Nat) : Prop := ∀ j, j < i → -1 ≤ (clAt l j).super ∧ (clAt l j).super < j
theorem superP_sup {l : List UClass} {i : Nat} (h : superP l i = true) : -1 ≤ (clAt l i).super ∧ (clAt l i).super < i := by
 simp only [superP, Bool.and_eq_true, decide_eq_true_eq] at h
 exact h.1.2.2
theorem c_classRight {H : AHeap} {l : List UClass} {v : AV} (h : SlE ClE 4 H l [v]) {i : Nat} (hi : i < l.length) (hl12 : l.length ≤ 12) (hsup : supsOk l i) : CW MN 103 [v, .int .i64 i] H fun u H' => u = .bool (superP l i) ∧ Sm H H' := by
 refine CW_of (fn := af103) rfl ?_
 obtain ⟨a, s0, cl, rfl, -⟩ := h.shape
 obtain ⟨x, o, vb, rfl, rfl, ld, -, -, -, -, -, hnm, hsu, hfi, hx⟩ := ClE.at h hi
 have i0 : (0 : Int) ≤ (i : Int) := by omega
 have hi' : (i : Int) < (l.length : Int) := by omega
 obtain ⟨H1, q1, q2, s1, r1⟩ := store_new H [.str [], .int .i64 0, .int .i64 0, .slice none 1 0 true] [.str l[i].name, iv l[i].super, iv l[i].fields, vb] rfl
 have ls := r1.one (j := 1) rfl
 have lf := r1.one (j := 2) rfl
 rw [Nat.zero_add] at ls lf
 have e : clAt l i = l[i] := clAt_nat hi
 have h1 := MonoE.cl.sl _ _ _ _ h s1
 have hres : superP l i = (decide (0 ≤ l[i].fields ∧ l[i].fields ≤ 62 ∧ -1 ≤ l[i].super ∧ l[i].super < i) && (decide (l[i].super = -1) || (decide ((chainP l l[i].super).length < 8) && decide ((clAt l l[i].super).fields ≤ l[i].fields)))) := by rw [superP, e]
 generalize l[i] = c at *
 obtain ⟨nm, su, fi, bi⟩ := c
 simp only [iv] at *
 dsimp only [af103, qm, q, qG, qn, qi, qb, qB, qk, qc, qo, qg, qv, qr]
 by_cases s0 : su < -1
 ·have hr : superP l i = false := by
   have : ¬ (0 ≤ fi ∧ fi ≤ 62 ∧ -1 ≤ su ∧ su < i) := by omega
   rw [hres, decide_eq_false this, Bool.false_and]
  simp -implicitDefEqProofs only [i0, hi', ld, q1, ls, lf, s0, hr, go_sem]
  exact s1
 ·by_cases si : (i : Int) ≤ su
  ·have hr : superP l i = false := by
    have : ¬ (0 ≤ fi ∧ fi ≤ 62 ∧ -1 ≤ su ∧ su < i) := by omega
    rw [hres, decide_eq_false this, Bool.false_and]
   simp -implicitDefEqProofs only [i0, hi', ld, q1, ls, lf, s0, si, hr, Bool.false_eq_true, go_sem]
   exact s1
  ·by_cases f0 : fi < 0
   ·have hr : superP l i = false := by
     have : ¬ (0 ≤ fi ∧ fi ≤ 62 ∧ -1 ≤ su ∧ su < i) := by omega
     rw [hres, decide_eq_false this, Bool.false_and]
    simp -implicitDefEqProofs only [i0, hi', ld, q1, ls, lf, s0, si, f0, hr, Bool.false_eq_true, go_sem]
    exact s1
   ·by_cases f62 : 62 < fi
    ·have hr : superP l i = false := by
      have : ¬ (0 ≤ fi ∧ fi ≤ 62 ∧ -1 ≤ su ∧ su < i) := by omega
      rw [hres, decide_eq_false this, Bool.false_and]
     simp -implicitDefEqProofs only [i0, hi', ld, q1, ls, lf, s0, si, f0, f62, hr, Bool.false_eq_true, go_sem]
     exact s1
    ·have hr : superP l i = (decide (su = -1) || (decide ((chainP l su).length < 8) && decide ((clAt l su).fields ≤ fi))) := by
      have : 0 ≤ fi ∧ fi ≤ 62 ∧ -1 ≤ su ∧ su < i := by omega
      rw [hres, decide_eq_true this, Bool.true_and]
     clear hres
     simp -implicitDefEqProofs only [i0, hi', ld, q1, ls, lf, s0, si, f0, f62, Bool.false_eq_true, go_sem]
     refine WP_mono (Q := fun ex fr H' => ex = .exit 0 ∧ ∃ d : Nat, d ≤ 13 ∧ (d + 1 ≤ 8 ↔ (chainP l su).length < 8) ∧ fr.get 0 = some (.slice (some (x, o)) 4 l.length cl) ∧ fr.get 5 = some (.ptr (some (H.next, 0))) ∧ fr.get 6 = some (.int .i64 ((d + 1 : Nat) : Int)) ∧ H' = H1) ?_ (WP_loop (fun n fr H' => ∃ (k : Int) (d : Nat), n = (k + 1).toNat ∧ -1 ≤ k ∧ k < i ∧ k + 1 + d ≤ i ∧ (∀ n, (chainN (n + d) l su).length = d + (chainN n l k).length) ∧ fr.get 0 = some (.slice (some (x, o)) 4 l.length cl) ∧ fr.get 5 = some (.ptr (some (H.next, 0))) ∧ fr.get 6 = some (.int .i64 ((d + 1 : Nat) : Int)) ∧ fr.get 7 = some (.int .i64 k) ∧ H' = H1) (su + 1).toNat ?_ ?_)
     rotate_left
     ·refine ⟨su, 0, rfl, by omega, by omega, by omega, fun n => by simp, ?_⟩
      simp -implicitDefEqProofs only [go_sem]
     ·rintro n fr H2 ⟨k, d, hn, hk1, hk2, hkd, hch, g0, g5, g6, g7, rfl⟩
      by_cases k0 : (0 : Int) ≤ k
      ·obtain ⟨kk, rfl⟩ : ∃ kk : Nat, k = kk := ⟨k.toNat, by omega⟩
       have kl : kk < l.length := by omega
       have kl' : (kk : Int) < (l.length : Int) := by omega
       obtain ⟨x', o', vb', e', -, -, -, lk, -⟩ := ClE.at h1 kl
       cases e'
       simp only [iv] at lk
       have hs := hsup kk (by omega)
       rw [clAt_nat kl] at hs
       have w : IntKind.i64.wrap (((d + 1 : Nat) : Int) + 1) = ((d + 1 + 1 : Nat) : Int) := by rw [wrap64 (by omega) (by omega)]; omega
       simp -implicitDefEqProofs only [g0, g5, g6, g7, k0, kl', lk, w, go_sem]
       refine ⟨(l[kk].super + 1).toNat, by omega, l[kk].super, d + 1, rfl, hs.1, by omega, by omega, fun n => ?_, rfl, rfl⟩
       have := hch (n + 1)
       have hk' : (0 : Int) ≤ (kk : Int) ∧ (kk : Int) < l.length := by omega
       rw [show n + (d + 1) = n + 1 + d by omega, this, chainN, if_pos hk', clAt_nat kl, List.length_cons]
       omega
      ·have hnil : ∀ n, (chainN n l k).length = 0 := fun n => by
        cases n with
        | zero => rfl
        | succ n => rw [chainN, if_neg (by omega)]; rfl
       simp -implicitDefEqProofs only [g0, g5, g6, g7, k0, Bool.false_eq_true, go_sem]
       refine ⟨d, by omega, ?_, rfl⟩
       unfold chainP
       by_cases hd : d ≤ 8
       ·have := hch (8 - d)
        rw [hnil, show 8 - d + d = 8 by omega] at this
        omega
       ·have h0 := hch 0
        rw [Nat.zero_add, hnil] at h0
        have := chainN_cut d 8 l su (by omega) (by omega)
        omega
     rintro ex fr H2 ⟨rfl, d, hd13, hdl, g0, g5, g6, rfl⟩
     by_cases h8 : d + 1 ≤ 8
     ·have h8' : ((d + 1 : Nat) : Int) ≤ 8 := by omega
      have hlen := hdl.1 h8
      by_cases sm : su < 0
      ·have sm1 : su = -1 := by omega
       rw [decide_eq_true sm1, Bool.true_or] at hr
       simp -implicitDefEqProofs only [g0, g5, g6, h8', ls, lf, sm, hr, go_sem]
       exact s1
      ·obtain ⟨k, rfl⟩ : ∃ k : Nat, su = k := ⟨su.toNat, by omega⟩
       have k0 : (0 : Int) ≤ (k : Int) := by omega
       have kl : k < l.length := by omega
       have kl' : (k : Int) < (l.length : Int) := by omega
       obtain ⟨x', o', vb', e', -, -, -, -, lk, -⟩ := ClE.at h1 kl
       cases e'
       simp only [iv] at lk
       have sm1 : ¬ (k : Int) = -1 := by omega
       rw [decide_eq_false sm1, Bool.false_or, decide_eq_true hlen, Bool.true_and, clAt_nat kl] at hr
       simp -implicitDefEqProofs only [g0, g5, g6, h8', ls, lf, sm, k0, kl', lk, hr, Bool.false_eq_true, go_sem]
       exact s1
     ·have h8' : ¬ ((d + 1 : Nat) : Int) ≤ 8 := by omega
      have hlen : ¬ (chainP l su).length < 8 := fun hh => h8 (hdl.2 hh)
      have sm1 : ¬ su = -1 := by
       rintro rfl
       have : (chainP l (-1)).length = 0 := by unfold chainP chainN; simp
       omega
      rw [decide_eq_false sm1, Bool.false_or, decide_eq_false hlen, Bool.false_and] at hr
      simp -implicitDefEqProofs only [g0, g5, g6, h8', hr, Bool.false_eq_true, go_sem]
      exact s1
theorem c_shapeR {H : AHeap} {l : List UClass} {v : AV} (h : SlE ClE 4 H l [v]) (n m : Int) : CW MN 76 [v, .int .i64 n, .int .i64 m] H fun u H' => u = .int .i64 (shapeP l n m) ∧ Sm H H' := by
 refine CW_of (fn := af76) rfl ?_
 obtain ⟨a, s0, cl, rfl, -⟩ := h.shape
 have hmax := h.max
 dsimp only [af76, qm, q, qG, qn, qi, qb, qB, qk, qc, qo, qg, qv, qr]
 by_cases h2 : (l.length : Int) < 2
 ·have e : shapeP l n m = 3 := by rw [shapeP, if_pos (by omega)]
  simp -implicitDefEqProofs only [h2, e, go_sem]
  exact Chg.refl H
 ·by_cases h12 : (12 : Int) < (l.length : Int)
  ·have e : shapeP l n m = 3 := by rw [shapeP, if_pos (by omega)]
   simp -implicitDefEqProofs only [h2, h12, e, Bool.false_eq_true, go_sem]
   exact Chg.refl H
  ·have e0 : shapeP l n m = if (clAt l 0).super ≠ -1 ∨ (clAt l 1).super ≠ -1 ∨ (clAt l 0).fields ≠ 4 ∨ (clAt l 1).fields ≠ 0 then 14 else firstBad l.length (classAt l n m) := by rw [shapeP, if_neg (by omega)]
   have i1 : (1 : Int) < (l.length : Int) := by omega
   have i0 : (0 : Int) < (l.length : Int) := by omega
   obtain ⟨x, o, va, rfl, rfl, -, -, ls0, lf0, -, -, -, -, -, hx⟩ := ClE.at h (i := 0) (by omega)
   obtain ⟨x', o', vb, e', -, -, -, ls1, lf1, -⟩ := ClE.at h (i := 1) (by omega)
   cases e'
   rw [Nat.zero_mul, Nat.add_zero] at ls0 lf0
   rw [Nat.one_mul] at ls1 lf1
   have ec0 : clAt l 0 = l[0]'(by omega) := clAt_nat (i := 0) (by omega)
   have ec1 : clAt l 1 = l[1]'(by omega) := clAt_nat (i := 1) (by omega)
   rw [ec0, ec1] at e0
   simp only [iv] at ls0 lf0 ls1 lf1
   have zi : (0 : Int) ≤ 1 := by omega
   have sd := Chg.refl H
   have head : ((l[0].super ≠ -1 ∨ l[1].super ≠ -1 ∨ l[0].fields ≠ 4 ∨ l[1].fields ≠ 0) ∧ shapeP l n m = 14) ∨ ((l[0].super != -1) = false ∧ (l[1].super != -1) = false ∧ (l[0].fields != 4) = false ∧ (l[1].fields != 0) = false ∧ shapeP l n m = firstBad l.length (classAt l n m)) := by
    by_cases hh : l[0].super ≠ -1 ∨ l[1].super ≠ -1 ∨ l[0].fields ≠ 4 ∨ l[1].fields ≠ 0
    ·left; exact ⟨hh, by rw [e0, if_pos hh]⟩
    ·right
     refine ⟨?_, ?_, ?_, ?_, by rw [e0, if_neg hh]⟩ <;> simp <;> omega
   clear e0
   rcases head with ⟨hh, e0⟩ | ⟨c1', c2', c3', c4', e0⟩
   ·by_cases c1 : l[0].super = -1
    ·have c1' : (l[0].super != -1) = false := by simp [c1]
     by_cases c2 : l[1].super = -1
     ·have c2' : (l[1].super != -1) = false := by simp [c2]
      by_cases c3 : l[0].fields = 4
      ·have c3' : (l[0].fields != 4) = false := by simp [c3]
       have c4' : (l[1].fields != 0) = true := by simp; omega
       simp -implicitDefEqProofs only [h2, h12, i0, i1, zi, Int.reduceToNat, ls0, lf0, ls1, lf1, c1', c2', c3', c4', e0, Bool.false_eq_true, go_sem]
       exact sd
      ·have c3' : (l[0].fields != 4) = true := by simpa using c3
       simp -implicitDefEqProofs only [h2, h12, i0, i1, zi, Int.reduceToNat, ls0, lf0, ls1, lf1, c1', c2', c3', e0, Bool.false_eq_true, go_sem]
       exact sd
     ·have c2' : (l[1].super != -1) = true := by simpa using c2
      simp -implicitDefEqProofs only [h2, h12, i0, i1, zi, Int.reduceToNat, ls0, lf0, ls1, lf1, c1', c2', e0, Bool.false_eq_true, go_sem]
      exact sd
    ·have c1' : (l[0].super != -1) = true := by simpa using c1
     simp -implicitDefEqProofs only [h2, h12, i0, i1, zi, Int.reduceToNat, ls0, lf0, ls1, lf1, c1', e0, Bool.false_eq_true, go_sem]
     exact sd
   ·simp -implicitDefEqProofs only [h2, h12, i0, i1, zi, Int.reduceToNat, ls0, lf0, ls1, lf1, c1', c2', c3', c4', Bool.false_eq_true, go_sem]
    rw [e0]
    refine WP_loop (fun k fr H' => ∃ i : Nat, k = l.length - i ∧ i ≤ l.length ∧ (∀ j, j < i → classAt l n m j = 0) ∧ fr.get 0 = some (.slice (some (x, o)) 4 l.length cl) ∧ fr.get 1 = some (.int .i64 n) ∧ fr.get 2 = some (.int .i64 m) ∧ fr.get 45 = some (.slice (some (x, o)) 4 l.length cl) ∧ fr.get 46 = some (.int .i64 l.length) ∧ fr.get 47 = some (.int .i64 i) ∧ Sm H H') l.length ?_ ?_
    ·refine ⟨0, rfl, by omega, fun j hj => by omega, ?_⟩
     simp -implicitDefEqProofs only [go_sem]
     exact sd
    ·clear ls0 lf0 ls1 lf1 ec0 ec1 c1' c2' c3' c4' e0
     rintro k fr H1 ⟨i, hk, hi, hall, g0, g1, g2, g45, g46, g47, s1⟩
     have i0 : (0 : Int) ≤ (i : Int) := by omega
     by_cases hlt : i < l.length
     ·have hlt' : (i : Int) < (l.length : Int) := by omega
      have hw := wrapS hlt hmax
      have h1 := MonoE.cl.sl _ _ _ _ h s1
      obtain ⟨x', o', vb, e', -, ld, -, -, -, -, hvb, hnm, -, -, -⟩ := ClE.at h1 hlt
      cases e'
      obtain ⟨e1, e2⟩ := h1.pre (k := i) (by omega)
      obtain ⟨H2, q1, q2, s2, r2⟩ := store_new H1 [.str [], .int .i64 0, .int .i64 0, .slice none 1 0 true] [.str l[i].name, iv l[i].super, iv l[i].fields, vb] rfl
      have lf := r2.one (j := 0) rfl
      have lb := r2.one (j := 3) rfl
      rw [Nat.zero_add] at lf lb
      have s12 := s1.trans s2
      have e22 := MonoE.cl.sl _ _ _ _ e2 s2
      have hci := classAt_nat (n := n) (m := m) hlt
      have htl : (l.take i).length = i := by simp; omega
      have bad : ∀ e : Int, classAt l n m i = e → e ≠ 0 → firstBad l.length (classAt l n m) = e := fun e h1 h2 => by rw [firstBad_at hall hlt (by rw [h1]; exact h2), h1]
      simp only [iv] at ld q1
      simp -implicitDefEqProofs only [g0, g1, g2, g45, g46, g47, i0, hlt', ld, q1, lf, go_sem]
      refine CW.mono (c_textR l[i].name) ?_
      rintro w H3 ⟨rfl, rfl⟩
      by_cases ht : 1 ≤ l[i].name.length ∧ l[i].name.length ≤ 16
      ·have n1 : ¬ l[i].name.length < 1 := by omega
       have n16 : ¬ 16 < l[i].name.length := by omega
       rw [decide_eq_false n1, decide_eq_false n16, Bool.or_self, Bool.false_or] at hci
       simp -implicitDefEqProofs only [g0, g1, g2, g45, g46, g47, ht, e1, Bool.not_true, Bool.false_eq_true, go_sem]
       refine WP_mono (Q := fun ex fr H' => ex = .exit 2 ∧ ((l.take i).any fun y => y.name == l[i].name) = false ∧ fr.get 0 = some (.slice (some (x, o)) 4 l.length cl) ∧ fr.get 1 = some (.int .i64 n) ∧ fr.get 2 = some (.int .i64 m) ∧ fr.get 7 = some (.int .i64 i) ∧ fr.get 8 = some (.ptr (some (H1.next, 0))) ∧ fr.get 45 = some (.slice (some (x, o)) 4 l.length cl) ∧ fr.get 46 = some (.int .i64 l.length) ∧ fr.get 47 = some (.int .i64 i) ∧ Sm H3 H' ∨ ex = .ret ∧ ((l.take i).any fun y => y.name == l[i].name) = true ∧ fr.get 6 = some (.int .i64 13) ∧ Sm H3 H') ?_ (WP_loop (fun k fr H' => ∃ j : Nat, k = i - j ∧ j ≤ i ∧ (∀ q (hq : q < (l.take i).length), q < j → ((l.take i)[q].name == l[i].name) = false) ∧ fr.get 0 = some (.slice (some (x, o)) 4 l.length cl) ∧ fr.get 1 = some (.int .i64 n) ∧ fr.get 2 = some (.int .i64 m) ∧ fr.get 7 = some (.int .i64 i) ∧ fr.get 8 = some (.ptr (some (H1.next, 0))) ∧ fr.get 45 = some (.slice (some (x, o)) 4 l.length cl) ∧ fr.get 46 = some (.int .i64 l.length) ∧ fr.get 47 = some (.int .i64 i) ∧ fr.get 58 = some (.slice (some (x, o)) 4 i (cl && decide (i = l.length))) ∧ fr.get 59 = some (.int .i64 i) ∧ fr.get 60 = some (.int .i64 j) ∧ Sm H3 H') i ?_ ?_)
       rotate_left
       ·refine ⟨0, rfl, by omega, fun q hq hq' => by omega, ?_⟩
        simp -implicitDefEqProofs only [g0, g1, g2, g45, g46, g47, go_sem]
        exact Chg.refl H3
       ·rintro k fr H4 ⟨j, hk, hj, hno, q0, q1, q2', q7, q8, q45, q46, q47, q58, q59, q60, s4⟩
        have j0 : (0 : Int) ≤ (j : Int) := by omega
        by_cases hji : j < i
        ·have hji' : (j : Int) < (i : Int) := by omega
         have hwj : IntKind.i64.wrap ((j : Int) + 1) = ((j + 1 : Nat) : Int) := by rw [wrap64 (by omega) (by omega)]; omega
         obtain ⟨x', o', vj, e', -, ldj, -⟩ := ClE.at (MonoE.cl.sl _ _ _ _ e22 s4) (i := j) (by omega)
         cases e'
         obtain ⟨H5, u1, u2, s5, r5⟩ := store_new H4 [.str [], .int .i64 0, .int .i64 0, .slice none 1 0 true] [.str ((l.take i)[j]'(by omega)).name, iv ((l.take i)[j]'(by omega)).super, iv ((l.take i)[j]'(by omega)).fields, vj] rfl
         have lk := r5.one (j := 0) rfl
         rw [Nat.zero_add] at lk
         have lf5 : loadA H5 H1.next 0 1 = some [.str l[i].name] := by rw [(s4.trans s5).ld (by omega), lf]
         simp only [iv] at ldj u1
         by_cases hq : ((l.take i)[j]'(by omega)).name = l[i].name
         ·have hq' : (((l.take i)[j]'(by omega)).name == l[i].name) = true := by simpa using hq
          simp -implicitDefEqProofs only [q0, q1, q2', q7, q8, q45, q46, q47, q58, q59, q60, hji', j0, ldj, u1, lk, lf5, hq', go_sem]
          exact .inr ⟨any_at (p := fun y : UClass => y.name == l[i].name) (i := j) (by omega) hq', s4.trans s5⟩
         ·have hq' : (((l.take i)[j]'(by omega)).name == l[i].name) = false := by simpa using hq
          simp -implicitDefEqProofs only [q0, q1, q2', q7, q8, q45, q46, q47, q58, q59, q60, hji', j0, ldj, u1, lk, lf5, hq', hwj, Bool.false_eq_true, go_sem]
          refine ⟨i - (j + 1), by omega, j + 1, rfl, by omega, fun q hql hqj => ?_, rfl, s4.trans s5⟩
          by_cases e : q = j
          ·subst e; exact hq'
          ·exact hno q hql (by omega)
        ·have hji' : ¬ (j : Int) < (i : Int) := by omega
         simp -implicitDefEqProofs only [q0, q1, q2', q7, q8, q45, q46, q47, q58, q59, q60, hji', Bool.false_eq_true, go_sem]
         exact .inl ⟨any_no fun q hq => hno q hq (by omega), s4⟩
       rintro ex fr H4 (⟨rfl, hany, g0, g1, g2, g7, g8, g45, g46, g47, s4⟩ | ⟨rfl, hany, g6, s4⟩)
       ·rw [hany, if_neg (by simp)] at hci
        have s14 := s12.trans s4
        have hso : supsOk l i := by
         intro j hj
         have hjl : j < l.length := Nat.lt_trans hj hlt
         exact superP_sup (classAt_zero hjl (hall j hj)).1
        simp -implicitDefEqProofs only [g0, g1, g2, g7, g8, g45, g46, g47, go_sem]
        refine CW.mono (c_classRight (MonoE.cl.sl _ _ _ _ h s14) hlt (by omega) hso) ?_
        rintro w H5 ⟨rfl, s5⟩
        have s15 := s14.trans s5
        cases hsp : superP l i with
        | false =>
         rw [if_pos hsp] at hci
         simp -implicitDefEqProofs only [go_sem]
         exact ⟨by rw [bad 14 hci (by omega)], s15⟩
        | true =>
         rw [if_neg (by rw [hsp]; simp)] at hci
         have lb' : loadA H5 H1.next 3 1 = some [vb] := by rw [(s4.trans s5).ld (by omega), lb]
         simp -implicitDefEqProofs only [g0, g1, g2, g7, g8, g45, g46, g47, lb', Bool.not_true, Bool.false_eq_true, go_sem]
         refine CW.mono (c_rbinds (n := n) (m := m) (MonoE.enc.sl _ _ _ _ hvb ((s2.trans s4).trans s5))) ?_
         rintro w H6 ⟨rfl, s6⟩
         cases hbp : bindsP l[i].binds n m with
         | false =>
          rw [if_pos hbp] at hci
          simp -implicitDefEqProofs only [go_sem]
          exact ⟨by rw [bad 15 hci (by omega)], s15.trans s6⟩
         | true =>
          rw [if_neg (by rw [hbp]; simp)] at hci
          simp -implicitDefEqProofs only [g0, g1, g2, g45, g46, g47, hw, Bool.not_true, Bool.false_eq_true, go_sem]
          refine ⟨l.length - (i + 1), by omega, i + 1, rfl, by omega, fun j hj => ?_, rfl, s15.trans s6⟩
          by_cases e : j = i
          ·subst e; exact hci
          ·exact hall j (by omega)
       ·rw [hany, if_pos rfl] at hci
        simp -implicitDefEqProofs only [g6, go_sem]
        exact ⟨by rw [bad 13 hci (by omega)], s12.trans s4⟩
      ·have hb : (decide (l[i].name.length < 1) || decide (16 < l[i].name.length)) = true := by rw [Bool.or_eq_true, decide_eq_true_eq, decide_eq_true_eq]; omega
       rw [hb, Bool.true_or, if_pos rfl] at hci
       simp -implicitDefEqProofs only [g0, g1, g2, ht, decide_false, Bool.not_false, go_sem]
       exact ⟨by rw [bad 13 hci (by omega)], s12⟩
     ·have hlt' : ¬ (i : Int) < (l.length : Int) := by omega
      have hno := firstBad_no (n := l.length) (f := classAt l n m) fun j hj => hall j (by omega)
      simp -implicitDefEqProofs only [g0, g1, g2, g45, g46, g47, hlt', hno, Bool.false_eq_true, go_sem]
      exact s1
set_option maxHeartbeats 4000000
theorem c_robject {H : AHeap} {u : UUnit} {cu : List AV} (hu : UnE H u cu) {o : UObj} {co : List AV} (h : ObE H o co) : CW MN 80 [.agg co, .agg cu] H fun w H' => w = .bool (objP u o) ∧ Sm H H' := by
 refine CW_of (fn := af80) rfl ?_
 dsimp only [af80, qm, q, qG, qn, qi, qb, qB, qk, qc, qo, qg, qv, qr]
 obtain ⟨vf, bo, rfl⟩ := BoxO.of h
 have s1 := Chg.newRow H [.int .i64 o.cls, vf]
 have hn1 : (H.newRow [.int .i64 o.cls, vf]).next = H.next + 1 := rfl
 generalize eH1 : H.newRow [.int .i64 o.cls, vf] = H1 at bo s1 hn1
 obtain ⟨v1, v2, v3, v4, bu, rfl⟩ := BoxU.of (MonoE.un _ _ _ _ hu s1)
 have s2 := Chg.newRow H1 [v1, v2, v3, v4, .int .i64 u.main]
 generalize eH2 : H1.newRow [v1, v2, v3, v4, .int .i64 u.main] = H2 at bu s2
 have bo := bo.sm s2
 obtain ⟨a2, z2, c2, rfl, -⟩ := bu.classes.shape
 have mf := bo.fields.max
 obtain ⟨af, zf, cf, rfl, -⟩ := bo.fields.shape
 have l0 := bo.l0; have l1 := bo.l1; have n1 := bu.l1
 have s12 := s1.trans s2
 by_cases h1 : o.cls < 1
 ·have e : objP u o = false := by simp [objP]; omega
  simp -implicitDefEqProofs only [eH1, eH2, l0, l1, n1, h1, e, go_sem]
  exact s12
 by_cases h2 : (u.classes.length : Int) ≤ o.cls
 ·have e : objP u o = false := by simp [objP]; omega
  simp -implicitDefEqProofs only [eH1, eH2, l0, l1, n1, h1, h2, e, Bool.false_eq_true, go_sem]
  exact s12
 obtain ⟨k, hk⟩ : ∃ k : Nat, o.cls = k := ⟨o.cls.toNat, by omega⟩
 have kl : k < u.classes.length := by omega
 have k0 : (0 : Int) ≤ (k : Int) := by omega
 have kl' : (k : Int) < (u.classes.length : Int) := by omega
 obtain ⟨x, p, vb, rfl, rfl, -, -, -, lf, -⟩ := ClE.at bu.classes kl
 simp only [iv] at lf
 have eck : clAt u.classes (k : Int) = u.classes[k] := clAt_nat kl
 by_cases hc : (1 : Int) < (k : Int) → (o.fields.length : Int) = u.classes[k].fields
 rotate_left
 ·have h4 : (1 : Int) < (k : Int) := Classical.byContradiction fun hn => hc fun hh => absurd hh hn
  have h5 : ¬ (o.fields.length : Int) = u.classes[k].fields := fun hh => hc fun _ => hh
  have h5' : ((o.fields.length : Int) != u.classes[k].fields) = true := by simpa using h5
  have e : objP u o = false := by
   have : ¬ (1 ≤ o.cls ∧ o.cls < u.classes.length ∧ o.fields.length ≤ 62 ∧ (1 < o.cls → (o.fields.length : Int) = (clAt u.classes o.cls).fields)) := by
    rintro ⟨-, -, -, hc⟩
    have := hc (by omega)
    rw [hk, eck] at this
    exact h5 this
   simp only [objP, this, decide_false, Bool.false_and]
  rw [hk] at l0 h1 h2
  simp -implicitDefEqProofs only [eH1, eH2, l0, l1, n1, h1, h2, h4, k0, kl', lf, h5', e, Bool.false_eq_true, go_sem]
  exact s12
 by_cases h3 : (62 : Int) < (o.fields.length : Int)
 ·have e : objP u o = false := by simp [objP]; omega
  rw [hk] at l0 h1 h2
  by_cases h4 : (1 : Int) < (k : Int)
  ·have h5' : ((o.fields.length : Int) != u.classes[k].fields) = false := by simpa using hc h4
   simp -implicitDefEqProofs only [eH1, eH2, l0, l1, n1, h1, h2, h3, h4, k0, kl', lf, h5', e, Bool.false_eq_true, go_sem]
   exact s12
  ·simp -implicitDefEqProofs only [eH1, eH2, l0, l1, n1, h1, h2, h3, h4, e, Bool.false_eq_true, go_sem]
   exact s12
 have eo : objP u o = o.fields.all (valP u) := by
  have : 1 ≤ o.cls ∧ o.cls < u.classes.length ∧ o.fields.length ≤ 62 ∧ (1 < o.cls → (o.fields.length : Int) = (clAt u.classes o.cls).fields) := ⟨by omega, by omega, by omega, by rw [hk, eck]; exact hc⟩
  rw [objP, decide_eq_true this, Bool.true_and]
 rw [hk] at l0 h1 h2
 by_cases h4 : (1 : Int) < (k : Int)
 have h5' : ((o.fields.length : Int) != u.classes[k].fields) = false := by simpa using hc h4
 simp -implicitDefEqProofs only [eH1, eH2, l0, l1, n1, h1, h2, h3, h4, k0, kl', lf, h5', Bool.false_eq_true, go_sem]
 rotate_left
 simp -implicitDefEqProofs only [eH1, eH2, l0, l1, n1, h1, h2, h3, h4, Bool.false_eq_true, go_sem]
 all_goals
  refine WP_mono (Q := fun ex fr H' => ex = .exit 0 ∧ o.fields.all (valP u) = true ∧ Sm H2 H' ∨ ex = .ret ∧ o.fields.all (valP u) = false ∧ fr.get 4 = some (.bool false) ∧ Sm H2 H') ?_ (WP_loop (fun q fr H' => ∃ i : Nat, q = o.fields.length - i ∧ i ≤ o.fields.length ∧ (∀ j (hj : j < o.fields.length), j < i → valP u o.fields[j] = true) ∧ fr.get 3 = some (.ptr (some (H1.next, 0))) ∧ fr.get 43 = some (.slice af zf o.fields.length cf) ∧ fr.get 44 = some (.int .i64 o.fields.length) ∧ fr.get 45 = some (.int .i64 i) ∧ Sm H2 H') o.fields.length ?_ ?_)
  rotate_left
  ·refine ⟨0, rfl, by omega, fun j hj hj' => by omega, ?_⟩
   simp -implicitDefEqProofs only [go_sem]
   exact Chg.refl H2
  ·rintro q fr H3 ⟨i, hq, hi, hall, g3, g43, g44, g45, s3⟩
   have i0 : (0 : Int) ≤ (i : Int) := by omega
   by_cases hlt : i < o.fields.length
   ·have hlt' : (i : Int) < (o.fields.length : Int) := by omega
    have hw := wrapS hlt mf
    obtain ⟨y, p', rfl, rfl, ldp, -, -, -, -, hy⟩ := PrE.at (bo.sm s3).fields hlt
    obtain ⟨H4, e1, e2, s4, r4⟩ := store_new H3 [.int .i64 0, .int .i64 0] [.int .i64 o.fields[i].1, .int .i64 o.fields[i].2] rfl
    have la := r4.one (j := 0) rfl
    have lb := r4.one (j := 1) rfl
    rw [Nat.zero_add] at la lb
    have n3 := (bu.sm (s3.trans s4)).l3
    obtain ⟨a4, z4, c4, rfl, -⟩ := bu.objects.shape
    have hok : valP u o.fields[i] = true → ∃ k' < o.fields.length - i, ∃ i' : Nat, k' = o.fields.length - i' ∧ i' ≤ o.fields.length ∧ (∀ j (hj : j < o.fields.length), j < i' → valP u o.fields[j] = true) ∧ ((i + 1 : Nat) = i') := fun hv => ⟨o.fields.length - (i + 1), by omega, i + 1, rfl, by omega, fun j hj hj' => by
     by_cases e : j = i
     ·subst e; exact hv
     ·exact hall j hj (by omega), rfl⟩
    have hno : valP u o.fields[i] = false → o.fields.all (valP u) = false := fun hv => List.all_eq_false.2 ⟨_, List.getElem_mem hlt, by rw [hv]; simp⟩
    generalize hv : o.fields[i] = v at *
    obtain ⟨z, n⟩ := v
    dsimp only at *
    by_cases z0 : z = 0
    ·subst z0
     have e0 : valP u (0, n) = decide (n = 0) := by simp [valP]
     by_cases hn : n = 0
     ·have hn' : (n != 0) = false := by simpa using hn
      obtain ⟨k', hk', i', r1, r2, r3, rfl⟩ := hok (by rw [e0, decide_eq_true hn])
      simp -implicitDefEqProofs only [g3, g43, g44, g45, hlt', i0, ldp, e1, la, lb, hn', hw, Int.reduceBEq, Bool.false_eq_true, go_sem]
      exact ⟨k', by omega, i + 1, r1, r2, r3, rfl, s3.trans s4⟩
     ·have hn' : (n != 0) = true := by simpa using hn
      simp -implicitDefEqProofs only [g3, g43, g44, g45, hlt', i0, ldp, e1, la, lb, hn', Int.reduceBEq, Bool.false_eq_true, go_sem]
      exact .inr ⟨hno (by rw [e0, decide_eq_false hn]), s3.trans s4⟩
    have z0' : (z == 0) = false := by simpa using z0
    by_cases z1 : z = 1
    ·subst z1
     have e0 : valP u (1, n) = decide (n = 0) := by simp [valP]
     by_cases hn : n = 0
     ·have hn' : (n != 0) = false := by simpa using hn
      obtain ⟨k', hk', i', r1, r2, r3, rfl⟩ := hok (by rw [e0, decide_eq_true hn])
      simp -implicitDefEqProofs only [g3, g43, g44, g45, hlt', i0, ldp, e1, la, lb, hn', hw, Int.reduceBEq, Bool.false_eq_true, go_sem]
      exact ⟨k', by omega, i + 1, r1, r2, r3, rfl, s3.trans s4⟩
     ·have hn' : (n != 0) = true := by simpa using hn
      simp -implicitDefEqProofs only [g3, g43, g44, g45, hlt', i0, ldp, e1, la, lb, hn', Int.reduceBEq, Bool.false_eq_true, go_sem]
      exact .inr ⟨hno (by rw [e0, decide_eq_false hn]), s3.trans s4⟩
    have z1' : (z == 1) = false := by simpa using z1
    by_cases z2 : z = 2
    ·subst z2
     have e0 : valP u (2, n) = decide (n = 0) := by simp [valP]
     by_cases hn : n = 0
     ·have hn' : (n != 0) = false := by simpa using hn
      obtain ⟨k', hk', i', r1, r2, r3, rfl⟩ := hok (by rw [e0, decide_eq_true hn])
      simp -implicitDefEqProofs only [g3, g43, g44, g45, hlt', i0, ldp, e1, la, lb, hn', hw, Int.reduceBEq, Bool.false_eq_true, go_sem]
      exact ⟨k', by omega, i + 1, r1, r2, r3, rfl, s3.trans s4⟩
     ·have hn' : (n != 0) = true := by simpa using hn
      simp -implicitDefEqProofs only [g3, g43, g44, g45, hlt', i0, ldp, e1, la, lb, hn', Int.reduceBEq, Bool.false_eq_true, go_sem]
      exact .inr ⟨hno (by rw [e0, decide_eq_false hn]), s3.trans s4⟩
    have z2' : (z == 2) = false := by simpa using z2
    by_cases z3 : z = 3
    ·subst z3
     have e0 : valP u (3, n) = decide (-1073741824 ≤ n ∧ n ≤ 1073741823) := by simp [valP]
     simp -implicitDefEqProofs only [g3, g43, g44, g45, hlt', i0, ldp, e1, la, lb, Int.reduceBEq, Bool.false_eq_true, go_sem]
     refine CW.mono (c_number n) ?_
     rintro w H5 ⟨rfl, rfl⟩
     by_cases hn : -1073741824 ≤ n ∧ n ≤ 1073741823
     ·obtain ⟨k', hk', i', r1, r2, r3, rfl⟩ := hok (by rw [e0, decide_eq_true hn])
      simp -implicitDefEqProofs only [decide_eq_true hn, g3, g43, g44, g45, hw, Bool.not_true, Bool.false_eq_true, go_sem]
      exact ⟨k', by omega, i + 1, r1, r2, r3, rfl, s3.trans s4⟩
     ·simp -implicitDefEqProofs only [decide_eq_false hn, Bool.not_false, go_sem]
      exact .inr ⟨hno (by rw [e0, decide_eq_false hn]), s3.trans s4⟩
    have z3' : (z == 3) = false := by simpa using z3
    by_cases z4 : z = 4
    ·subst z4
     have e0 : valP u (4, n) = decide (0 ≤ n ∧ n < u.objects.length) := by simp [valP]
     by_cases hn : n < 0
     ·simp -implicitDefEqProofs only [g3, g43, g44, g45, hlt', i0, ldp, e1, la, lb, hn, Int.reduceBEq, Bool.false_eq_true, go_sem]
      exact .inr ⟨hno (by rw [e0, decide_eq_false (by omega)]), s3.trans s4⟩
     ·by_cases hm : (u.objects.length : Int) ≤ n
      ·simp -implicitDefEqProofs only [g3, g43, g44, g45, hlt', i0, ldp, e1, la, lb, hn, hm, n3, Int.reduceBEq, Bool.false_eq_true, go_sem]
       exact .inr ⟨hno (by rw [e0, decide_eq_false (by omega)]), s3.trans s4⟩
      ·obtain ⟨k', hk', i', r1, r2, r3, rfl⟩ := hok (by rw [e0, decide_eq_true (by omega)])
       simp -implicitDefEqProofs only [g3, g43, g44, g45, hlt', i0, ldp, e1, la, lb, hn, hm, n3, hw, Int.reduceBEq, Bool.false_eq_true, go_sem]
       exact ⟨k', by omega, i + 1, r1, r2, r3, rfl, s3.trans s4⟩
    have z4' : (z == 4) = false := by simpa using z4
    simp -implicitDefEqProofs only [g3, g43, g44, g45, hlt', i0, ldp, e1, la, lb, z0', z1', z2', z3', z4', Bool.false_eq_true, go_sem]
    exact .inr ⟨hno (by simp [valP, z0, z1, z2, z3, z4]), s3.trans s4⟩
   ·have hlt' : ¬ (i : Int) < (o.fields.length : Int) := by omega
    simp -implicitDefEqProofs only [g3, g43, g44, g45, hlt', Bool.false_eq_true, go_sem]
    exact .inl ⟨List.all_eq_true.2 fun y hy => by
     obtain ⟨j, hj, rfl⟩ := List.getElem_of_mem hy
     exact hall j hj (by omega), s3⟩
  rintro ex fr H3 (⟨rfl, hfb, s3⟩ | ⟨rfl, hfb, g2, s3⟩)
  ·simp -implicitDefEqProofs only [eo, hfb, go_sem]
   exact s12.trans s3
  ·simp -implicitDefEqProofs only [g2, eo, hfb, go_sem]
   exact s12.trans s3
theorem c_rUnit {H : AHeap} {u : UUnit} {cu : List AV} (hu : UnE H u cu) : CW MN 32 [.agg cu] H fun w H' => w = .int .i64 (unitP u) ∧ Sm H H' := by
 refine CW_of (fn := af32) rfl ?_
 dsimp only [af32, qm, q, qG, qn, qi, qb, qB, qk, qc, qo, qg, qv, qr]
 obtain ⟨v1, v2, v3, v4, bu, rfl⟩ := BoxU.of hu
 have s1 := Chg.newRow H [v1, v2, v3, v4, .int .i64 u.main]
 have hn1 : (H.newRow [v1, v2, v3, v4, .int .i64 u.main]).next = H.next + 1 := rfl
 generalize eH1 : H.newRow [v1, v2, v3, v4, .int .i64 u.main] = H1 at bu s1 hn1
 obtain ⟨a1, z1, c1, rfl, -⟩ := bu.names.shape
 obtain ⟨a2, z2, c2, rfl, -⟩ := bu.classes.shape
 obtain ⟨a3, z3, c3, rfl, -⟩ := bu.methods.shape
 obtain ⟨a4, z4, c4, rfl, -⟩ := bu.objects.shape
 have m2 := bu.classes.max
 have m3 := bu.methods.max
 have m4 := bu.objects.max
 have l0 := bu.l0; have l1 := bu.l1; have l2 := bu.l2; have l3 := bu.l3
 cases hsz : sizesP u with
 | false =>
  have hr : unitP u = 3 := by simp [unitP, hsz]
  have hs' : ¬ (u.names.length ≤ 48 ∧ 1 ≤ u.methods.length ∧ u.methods.length ≤ 32 ∧ 1 ≤ u.objects.length ∧ u.objects.length ≤ 40) := by simpa [sizesP] using hsz
  by_cases d1 : (48 : Int) < (u.names.length : Int)
  ·simp -implicitDefEqProofs only [eH1, l0, d1, hr, go_sem]
   exact s1
  ·by_cases d2 : (u.methods.length : Int) < 1
   ·simp -implicitDefEqProofs only [eH1, l0, l2, d1, d2, hr, Bool.false_eq_true, go_sem]
    exact s1
   ·by_cases d3 : (32 : Int) < (u.methods.length : Int)
    ·simp -implicitDefEqProofs only [eH1, l0, l2, d1, d2, d3, hr, Bool.false_eq_true, go_sem]
     exact s1
    ·by_cases d4 : (u.objects.length : Int) < 1
     ·simp -implicitDefEqProofs only [eH1, l0, l2, l3, d1, d2, d3, d4, hr, Bool.false_eq_true, go_sem]
      exact s1
     ·have d5 : (40 : Int) < (u.objects.length : Int) := by omega
      simp -implicitDefEqProofs only [eH1, l0, l2, l3, d1, d2, d3, d4, d5, hr, Bool.false_eq_true, go_sem]
      exact s1
 | true =>
 have hs' : u.names.length ≤ 48 ∧ 1 ≤ u.methods.length ∧ u.methods.length ≤ 32 ∧ 1 ≤ u.objects.length ∧ u.objects.length ≤ 40 := by simpa [sizesP] using hsz
 have d1 : ¬ (48 : Int) < (u.names.length : Int) := by omega
 have d2 : ¬ (u.methods.length : Int) < 1 := by omega
 have d3 : ¬ (32 : Int) < (u.methods.length : Int) := by omega
 have d4 : ¬ (u.objects.length : Int) < 1 := by omega
 have d5 : ¬ (40 : Int) < (u.objects.length : Int) := by omega
 simp -implicitDefEqProofs only [eH1, l0, l2, l3, d1, d2, d3, d4, d5, Bool.false_eq_true, go_sem]
 refine CW.mono (c_rnames bu.names) ?_
 rintro w H2 ⟨rfl, rfl⟩
 cases hnm : namesP u.names with
 | false =>
  have hr : unitP u = 13 := by simp [unitP, hsz, hnm]
  simp -implicitDefEqProofs only [hr, Bool.not_false, go_sem]
  exact s1
 | true =>
 simp -implicitDefEqProofs only [l0, l1, l2, Bool.not_true, Bool.false_eq_true, go_sem]
 refine CW.mono (c_shapeR bu.classes (u.names.length : Int) (u.methods.length : Int)) ?_
 rintro w HB ⟨rfl, s3⟩
 by_cases hsh : shapeP u.classes u.names.length u.methods.length = 0
 rotate_left
 ·have hsh' : (shapeP u.classes u.names.length u.methods.length != 0) = true := by simpa using hsh
  have hr : unitP u = shapeP u.classes u.names.length u.methods.length := by simp only [unitP, hsz, hnm, hsh, Bool.true_eq_false, if_false, ne_eq, not_false_eq_true, if_true]
  simp -implicitDefEqProofs only [hsh', hr, go_sem]
  exact s1.trans s3
 have hshb : (shapeP u.classes u.names.length u.methods.length != 0) = false := by simpa using hsh
 have hbk := shapeP_binds hsh
 have hbad : methodsP u ≠ 0 → unitP u = methodsP u := fun hme => by simp only [unitP, hsz, hnm, hsh, hme, Bool.true_eq_false, if_false, ne_eq, not_true_eq_false, not_false_eq_true, if_true]
 have hnext : methodsP u = 0 → unitP u = if u.objects.all (objP u) = false then 16 else if mainP u = false then 15 else 0 := fun hme => by simp only [unitP, hsz, hnm, hsh, hme, Bool.true_eq_false, if_false, ne_eq, not_true_eq_false]
 have bu := bu.sm s3
 have s1 := s1.trans s3
 have hn1 : H.next + 1 ≤ HB.next := by have := s3.1; omega
 clear eH1 l0 l1 l2 l3
 have l1 := bu.l1
 simp -implicitDefEqProofs only [l1, hshb, Bool.false_eq_true, go_sem]
 refine WP_mono (Q := fun ex fr H' => ex = .exit 0 ∧ u.classes.any badDict = false ∧ fr.get 1 = some (.ptr (some (H.next, 0))) ∧ Sm HB H' ∨ ex = .ret ∧ u.classes.any badDict = true ∧ fr.get 2 = some (.int .i64 14) ∧ Sm HB H') ?_ (WP_loop (fun k fr H' => ∃ i : Nat, k = u.classes.length - i ∧ i ≤ u.classes.length ∧ (∀ j (hj : j < u.classes.length), j < i → badDict u.classes[j] = false) ∧ fr.get 1 = some (.ptr (some (H.next, 0))) ∧ fr.get 62 = some (.slice a2 z2 u.classes.length c2) ∧ fr.get 63 = some (.int .i64 u.classes.length) ∧ fr.get 64 = some (.int .i64 i) ∧ Sm HB H') u.classes.length ?_ ?_)
 rotate_left
 ·refine ⟨0, rfl, by omega, fun j hj hj' => by omega, ?_⟩
  simp -implicitDefEqProofs only [go_sem]
  exact Chg.refl HB
 ·rintro k fr H2 ⟨i, hk, hi, hall, g1, g15, g16, g17, s2⟩
  have i0 : (0 : Int) ≤ (i : Int) := by omega
  by_cases hlt : i < u.classes.length
  ·have hlt' : (i : Int) < (u.classes.length : Int) := by omega
   have hw := wrapS hlt m2
   obtain ⟨x, o, vb, rfl, rfl, ld, -, -, -, -, hvb, -⟩ := ClE.at (bu.sm s2).classes hlt
   obtain ⟨H3, q1, q2, s3, r3⟩ := store_new H2 [.str [], .int .i64 0, .int .i64 0, .slice none 1 0 true] [.str u.classes[i].name, iv u.classes[i].super, iv u.classes[i].fields, vb] rfl
   have lb := r3.one (j := 3) rfl
   rw [Nat.zero_add] at lb
   simp only [iv] at ld q1
   simp -implicitDefEqProofs only [g1, g15, g16, g17, hlt', i0, ld, q1, lb, go_sem]
   refine CW.mono (c_rOf (MonoE.enc.sl _ _ _ _ hvb s3)) ?_
   rintro w H4 ⟨⟨p, rfl⟩, s4⟩
   cases hd : dictP u.classes[i].binds with
   | false =>
    simp -implicitDefEqProofs only [at0, at1, go_sem]
    exact .inr ⟨any_at hlt (by simp [badDict, hd]), (s2.trans s3).trans s4⟩
   | true =>
    simp -implicitDefEqProofs only [g1, g15, g16, g17, at0, at1, hw, Bool.false_eq_true, go_sem]
    refine ⟨u.classes.length - (i + 1), by omega, i + 1, rfl, by omega, fun j hj hj' => ?_, rfl, (s2.trans s3).trans s4⟩
    by_cases e : j = i
    ·subst e; simp [badDict, hd]
    ·exact hall j hj (by omega)
  ·have hlt' : ¬ (i : Int) < (u.classes.length : Int) := by omega
   simp -implicitDefEqProofs only [g1, g15, g16, g17, hlt', Bool.false_eq_true, go_sem]
   exact .inl ⟨any_no fun j hj => hall j hj (by omega), s2⟩
 rintro ex fr H2 (⟨rfl, hcl, g1, s2⟩ | ⟨rfl, hcl, g2, s2⟩)
 ·have bu2 := bu.sm s2
  have l2 := bu2.l2
  simp -implicitDefEqProofs only [g1, l2, go_sem]
  refine WP_mono (Q := fun ex fr H' => ex = .exit 2 ∧ firstBad u.methods.length (badMeth u) = 0 ∧ fr.get 1 = some (.ptr (some (H.next, 0))) ∧ Sm HB H' ∨ ex = .ret ∧ firstBad u.methods.length (badMeth u) ≠ 0 ∧ fr.get 2 = some (.int .i64 (firstBad u.methods.length (badMeth u))) ∧ Sm HB H') ?_ (WP_loop (fun k fr H' => ∃ i : Nat, k = u.methods.length - i ∧ i ≤ u.methods.length ∧ (∀ j, j < i → badMeth u j = 0) ∧ fr.get 1 = some (.ptr (some (H.next, 0))) ∧ fr.get 78 = some (.slice a3 z3 u.methods.length c3) ∧ fr.get 79 = some (.int .i64 u.methods.length) ∧ fr.get 80 = some (.int .i64 i) ∧ Sm HB H') u.methods.length ?_ ?_)
  rotate_left
  ·refine ⟨0, rfl, by omega, fun j hj => by omega, ?_⟩
   simp -implicitDefEqProofs only [g1, go_sem]
   exact s2
  ·rintro k fr H3 ⟨i, hk, hi, hall, g1, g31, g32, g33, s3⟩
   have i0 : (0 : Int) ≤ (i : Int) := by omega
   by_cases hlt : i < u.methods.length
   ·have hlt' : (i : Int) < (u.methods.length : Int) := by omega
    have hw := wrapS hlt m3
    obtain ⟨x, o, r, rfl, rfl, ld, hl, hm, -⟩ := (bu.sm s3).methods.at hlt
    obtain ⟨H4, q1, q2, s4, r4⟩ := store_new H3 [.int .i64 0, .int .i64 0, .slice none 1 0 true, .slice none 1 0 true] r hl
    have l4 := r4.load (n := 4) hl
    have bu4 := bu.sm (s3.trans s4)
    have la := bu4.all
    simp -implicitDefEqProofs only [g1, g31, g32, g33, hlt', i0, ld, hl, q1, l4, la, go_sem]
    refine CW.mono (c_rMethod bu4.un (MonoE.me _ _ _ _ hm s4)) ?_
    rintro w H5 ⟨rfl, s5⟩
    have he : badMeth u i = methodP u u.methods[i] := by rw [badMeth, mAt_nat hlt]
    rw [← he]
    by_cases hb : badMeth u i = 0
    ·have hb' : (badMeth u i != 0) = false := by simpa using hb
     simp -implicitDefEqProofs only [g1, g31, g32, g33, hb', hw, Bool.false_eq_true, go_sem]
     refine ⟨u.methods.length - (i + 1), by omega, i + 1, rfl, by omega, fun j hj => ?_, rfl, (s3.trans s4).trans s5⟩
     by_cases e : j = i
     ·subst e; exact hb
     ·exact hall j (by omega)
    ·have hb' : (badMeth u i != 0) = true := by simpa using hb
     have hf := firstBad_at hall hlt hb
     simp -implicitDefEqProofs only [g1, hb', hf, go_sem]
     exact .inr ⟨hb, (s3.trans s4).trans s5⟩
   ·have hlt' : ¬ (i : Int) < (u.methods.length : Int) := by omega
    simp -implicitDefEqProofs only [g1, g31, g32, g33, hlt', Bool.false_eq_true, go_sem]
    exact .inl ⟨firstBad_no fun j hj => hall j (by omega), s3⟩
  rintro ex fr H3 (⟨rfl, hfb, g1, s3⟩ | ⟨rfl, hfb, g2, s3⟩)
  ·have bu3 := bu.sm s3
   have l1 := bu3.l1
   have hmp : methodsP u = if (u.classes.any fun c => c.binds.any (badBind u)) = true then 15 else 0 := by simp only [methodsP, hcl, hfb, Bool.false_eq_true, if_false, ne_eq, not_true_eq_false]
   simp -implicitDefEqProofs only [g1, l1, go_sem]
   refine WP_mono (Q := fun ex fr H' => ex = .exit 4 ∧ (u.classes.any fun c => c.binds.any (badBind u)) = false ∧ fr.get 1 = some (.ptr (some (H.next, 0))) ∧ Sm HB H' ∨ ex = .ret ∧ (u.classes.any fun c => c.binds.any (badBind u)) = true ∧ fr.get 2 = some (.int .i64 15) ∧ Sm HB H') ?_ (WP_loop (fun k fr H' => ∃ i : Nat, k = u.classes.length - i ∧ i ≤ u.classes.length ∧ (∀ j (hj : j < u.classes.length), j < i → u.classes[j].binds.any (badBind u) = false) ∧ fr.get 1 = some (.ptr (some (H.next, 0))) ∧ fr.get 92 = some (.slice a2 z2 u.classes.length c2) ∧ fr.get 93 = some (.int .i64 u.classes.length) ∧ fr.get 94 = some (.int .i64 i) ∧ Sm HB H') u.classes.length ?_ ?_)
   rotate_left
   ·refine ⟨0, rfl, by omega, fun j hj hj' => by omega, ?_⟩
    simp -implicitDefEqProofs only [g1, go_sem]
    exact s3
   ·rintro k fr H4 ⟨i, hk, hi, hall, g1, g45, g46, g47, s4⟩
    have i0 : (0 : Int) ≤ (i : Int) := by omega
    by_cases hlt : i < u.classes.length
    ·have hlt' : (i : Int) < (u.classes.length : Int) := by omega
     have hw := wrapS hlt m2
     obtain ⟨x, o, vb, rfl, rfl, ld, -, -, -, -, hvb, -⟩ := ClE.at (bu.sm s4).classes hlt
     obtain ⟨H5, q1, q2, s5, r5⟩ := store_new H4 [.str [], .int .i64 0, .int .i64 0, .slice none 1 0 true] [.str u.classes[i].name, iv u.classes[i].super, iv u.classes[i].fields, vb] rfl
     have lb := r5.one (j := 3) rfl
     rw [Nat.zero_add] at lb
     simp only [iv] at ld q1
     have hvb5 := MonoE.enc.sl _ _ _ _ hvb s5
     obtain ⟨ab, zb, cb, rfl, -⟩ := hvb5.shape
     have mb := hvb5.max
     have hcm := hbk _ (List.getElem_mem hlt)
     generalize hci : u.classes[i] = c at *
     simp -implicitDefEqProofs only [g1, g45, g46, g47, hlt', i0, ld, q1, lb, go_sem]
     refine WP_mono (Q := fun ex fr H' => ex = .exit 6 ∧ c.binds.any (badBind u) = false ∧ fr.get 1 = some (.ptr (some (H.next, 0))) ∧ fr.get 92 = some (.slice (some (x, o)) 4 u.classes.length c2) ∧ fr.get 93 = some (.int .i64 u.classes.length) ∧ fr.get 94 = some (.int .i64 i) ∧ Sm H5 H' ∨ ex = .ret ∧ c.binds.any (badBind u) = true ∧ fr.get 2 = some (.int .i64 15) ∧ Sm H5 H') ?_ (WP_loop (fun k fr H' => ∃ j : Nat, k = c.binds.length - j ∧ j ≤ c.binds.length ∧ (∀ q (hq : q < c.binds.length), q < j → badBind u c.binds[q] = false) ∧ fr.get 1 = some (.ptr (some (H.next, 0))) ∧ fr.get 92 = some (.slice (some (x, o)) 4 u.classes.length c2) ∧ fr.get 93 = some (.int .i64 u.classes.length) ∧ fr.get 94 = some (.int .i64 i) ∧ fr.get 99 = some (.slice ab zb c.binds.length cb) ∧ fr.get 100 = some (.int .i64 c.binds.length) ∧ fr.get 101 = some (.int .i64 j) ∧ Sm H5 H') c.binds.length ?_ ?_)
     rotate_left
     ·refine ⟨0, rfl, by omega, fun q hq hq' => by omega, ?_⟩
      simp -implicitDefEqProofs only [g1, g45, g46, g47, go_sem]
      exact Chg.refl H5
     ·rintro k fr H6 ⟨j, hk, hj, hallj, g1, g45, g46, g47, g52, g53, g54, s6⟩
      have j0 : (0 : Int) ≤ (j : Int) := by omega
      by_cases hjl : j < c.binds.length
      ·have hjl' : (j : Int) < (c.binds.length : Int) := by omega
       have hwj := wrapS hjl mb
       obtain ⟨y, p, rfl, rfl, ldp, -, -, -, -, hy⟩ := PrE.at (MonoE.enc.sl _ _ _ _ hvb5 s6) hjl
       obtain ⟨H7, e1, e2, s7, r7⟩ := store_new H6 [.int .i64 0, .int .i64 0] [.int .i64 c.binds[j].1, .int .i64 c.binds[j].2] rfl
       have lf := r7.one (j := 0) rfl
       have lg := r7.one (j := 1) rfl
       rw [Nat.zero_add] at lf lg
       have hbj := hcm _ (List.getElem_mem hjl)
       have hbad : badBind u c.binds[j] = true → c.binds.any (badBind u) = true := any_at hjl
       have hbr : badBind u c.binds[j] = (argsP (u.names.getD c.binds[j].1.toNat []) != (mAt u c.binds[j].2.toNat).args) := rfl
       generalize hbb : badBind u c.binds[j] = bb at *
       generalize c.binds[j] = bd at ldp e1 lf lg hbj hbr
       obtain ⟨b1, b2⟩ := bd
       dsimp only at *
       obtain ⟨n, rfl⟩ : ∃ n : Nat, b1 = n := ⟨b1.toNat, by omega⟩
       obtain ⟨m, rfl⟩ : ∃ m : Nat, b2 = m := ⟨b2.toNat, by omega⟩
       rw [Int.toNat_natCast, Int.toNat_natCast] at hbr
       have nl : n < u.names.length := by omega
       have ml : m < u.methods.length := by omega
       have n0 : (0 : Int) ≤ (n : Int) := by omega
       have nl' : (n : Int) < (u.names.length : Int) := by omega
       have m0 : (0 : Int) ≤ (m : Int) := by omega
       have ml' : (m : Int) < (u.methods.length : Int) := by omega
       have s17 : Sm HB H7 := ((s4.trans s5).trans s6).trans s7
       have bu7 := bu.sm s17
       have k0 := bu7.l0
       obtain ⟨xn, on, rfl, rfl, ldn, nok, -⟩ := StE.at bu7.names nl
       have eg : u.names.getD n [] = u.names[n] := by rw [List.getD_eq_getElem?_getD, List.getElem?_eq_getElem nl]; rfl
       rw [eg, mAt_nat ml] at hbr
       simp -implicitDefEqProofs only [g1, g45, g46, g47, g52, g53, g54, j0, hjl', ldp, e1, lf, k0, n0, nl', ldn, go_sem]
       refine CW.mono (c_ArgsR nok.1) ?_
       rintro w H8 ⟨rfl, e8⟩
       have s8 : Sm H7 H8 := by subst e8; exact Chg.refl _
       have bu8 := bu7.sm s8
       have k2 := bu8.l2
       have k0' := bu8.l0
       have lf8 : loadA H8 H6.next 0 1 = some [.int .i64 (n : Int)] := by rw [s8.ld (by omega), lf]
       have lg8 : loadA H8 H6.next 1 1 = some [.int .i64 (m : Int)] := by rw [s8.ld (by omega), lg]
       obtain ⟨xm, om, rm, rfl, rfl, -, -, ⟨wl, wc, rfl, -⟩, rdm⟩ := bu8.methods.at ml
       have lda := rdm.one (j := 0) rfl
       rw [Nat.add_zero] at lda
       simp only [iv] at lda
       have k2' := bu7.l2
       have lg7 := lg
       have lda7 : loadA H7 xm (om + m * 4) 1 = some [.int .i64 u.methods[m].args] := by
        obtain ⟨xm', om', rm', e', -, -, -, ⟨wl', wc', rfl, -⟩, rdm'⟩ := bu7.methods.at ml
        cases e'
        have := rdm'.one (j := 0) rfl
        rw [Nat.add_zero] at this
        exact this
       cases hq : (argsP u.names[n] != u.methods[m].args) with
       | true =>
        simp -implicitDefEqProofs only [g1, g45, g46, g47, g52, g53, g54, k0, k0', k2, k2', lf, lf8, lg7, lg8, lda, lda7, m0, ml', n0, nl', ldn, hq, go_sem]
        exact .inr ⟨hbad (by rw [hbr, hq]), (s6.trans s7).trans s8⟩
       | false =>
        simp -implicitDefEqProofs only [g1, g45, g46, g47, g52, g53, g54, k0, k0', k2, k2', lf, lf8, lg7, lg8, lda, lda7, m0, ml', n0, nl', ldn, hq, hwj, Bool.false_eq_true, go_sem]
        refine ⟨c.binds.length - (j + 1), by omega, j + 1, rfl, by omega, fun q hq' hqj => ?_, rfl, (s6.trans s7).trans s8⟩
        by_cases e : q = j
        ·subst e; rw [hbb, hbr, hq]
        ·exact hallj q hq' (by omega)
      ·have hjl' : ¬ (j : Int) < (c.binds.length : Int) := by omega
       simp -implicitDefEqProofs only [g1, g45, g46, g47, g52, g53, g54, hjl', Bool.false_eq_true, go_sem]
       exact .inl ⟨any_no fun q hq => hallj q hq (by omega), s6⟩
     rintro ex fr H6 (⟨rfl, hno, g1, g45, g46, g47, s6⟩ | ⟨rfl, hye, g2, s6⟩)
     ·simp -implicitDefEqProofs only [g1, g45, g46, g47, hw, go_sem]
      refine ⟨u.classes.length - (i + 1), by omega, i + 1, rfl, by omega, fun j hj hj' => ?_, rfl, (s4.trans s5).trans s6⟩
      by_cases e : j = i
      ·subst e; rw [hci]; exact hno
      ·exact hall j hj (by omega)
     ·simp -implicitDefEqProofs only [g2, go_sem]
      exact .inr ⟨any_at (p := fun c : UClass => c.binds.any (badBind u)) (i := i) hlt (by rw [hci]; exact hye), (s4.trans s5).trans s6⟩
    ·have hlt' : ¬ (i : Int) < (u.classes.length : Int) := by omega
     simp -implicitDefEqProofs only [g1, g45, g46, g47, hlt', Bool.false_eq_true, go_sem]
     exact .inl ⟨any_no fun j hj => hall j hj (by omega), s4⟩
   rintro ex fr H4 (⟨rfl, hbb, g1, s4⟩ | ⟨rfl, hbb, g2, s4⟩)
   ·rw [hbb] at hmp
    have hm0 : methodsP u = 0 := by rw [hmp]; rfl
    have bu4 := bu.sm s4
    have l3 := bu4.l3
    have hrest := hnext hm0
    simp -implicitDefEqProofs only [g1, l3, go_sem]
    refine WP_mono (Q := fun ex fr H' => ex = .exit 8 ∧ u.objects.all (objP u) = true ∧ fr.get 1 = some (.ptr (some (H.next, 0))) ∧ Sm HB H' ∨ ex = .ret ∧ u.objects.all (objP u) = false ∧ fr.get 2 = some (.int .i64 16) ∧ Sm HB H') ?_ (WP_loop (fun k fr H' => ∃ i : Nat, k = u.objects.length - i ∧ i ≤ u.objects.length ∧ (∀ j (hj : j < u.objects.length), j < i → objP u u.objects[j] = true) ∧ fr.get 1 = some (.ptr (some (H.next, 0))) ∧ fr.get 123 = some (.slice a4 z4 u.objects.length c4) ∧ fr.get 124 = some (.int .i64 u.objects.length) ∧ fr.get 125 = some (.int .i64 i) ∧ Sm HB H') u.objects.length ?_ ?_)
    rotate_left
    ·refine ⟨0, rfl, by omega, fun j hj hj' => by omega, ?_⟩
     simp -implicitDefEqProofs only [g1, go_sem]
     exact s4
    ·rintro k fr H5 ⟨i, hk, hi, hall, g1, g123, g124, g125, s5⟩
     have i0 : (0 : Int) ≤ (i : Int) := by omega
     by_cases hlt : i < u.objects.length
     ·have hlt' : (i : Int) < (u.objects.length : Int) := by omega
      have hw := wrapS hlt m4
      obtain ⟨x, o, r, rfl, rfl, ld, hl, ho, -⟩ := (bu.sm s5).objects.at hlt
      obtain ⟨H6, q1, q2, s6, r6⟩ := store_new H5 [.int .i64 0, .slice none 1 0 true] r hl
      have l6 := r6.load (n := 2) hl
      have bu6 := bu.sm (s5.trans s6)
      have la := bu6.all
      simp -implicitDefEqProofs only [g1, g123, g124, g125, hlt', i0, ld, hl, q1, l6, la, go_sem]
      refine CW.mono (c_robject bu6.un (MonoE.ob _ _ _ _ ho s6)) ?_
      rintro w H7 ⟨rfl, s7⟩
      cases hob : objP u u.objects[i] with
      | false =>
       simp -implicitDefEqProofs only [Bool.not_false, go_sem]
       exact .inr ⟨List.all_eq_false.2 ⟨_, List.getElem_mem hlt, by rw [hob]; simp⟩, (s5.trans s6).trans s7⟩
      | true =>
       simp -implicitDefEqProofs only [g1, g123, g124, g125, hw, Bool.not_true, Bool.false_eq_true, go_sem]
       refine ⟨u.objects.length - (i + 1), by omega, i + 1, rfl, by omega, fun j hj hj' => ?_, rfl, (s5.trans s6).trans s7⟩
       by_cases e : j = i
       ·subst e; exact hob
       ·exact hall j hj (by omega)
     ·have hlt' : ¬ (i : Int) < (u.objects.length : Int) := by omega
      simp -implicitDefEqProofs only [g1, g123, g124, g125, hlt', Bool.false_eq_true, go_sem]
      exact .inl ⟨List.all_eq_true.2 fun y hy => by
       obtain ⟨j, hj, rfl⟩ := List.getElem_of_mem hy
       exact hall j hj (by omega), s5⟩
    rintro ex fr H5 (⟨rfl, hob, g1, s5⟩ | ⟨rfl, hob, g2, s5⟩)
    ·have hres : unitP u = if mainP u = false then 15 else 0 := by rw [hrest, hob]; rfl
     have s15 := s1.trans s5
     have bu5 := bu.sm s5
     have l4 := bu5.l4; have l2 := bu5.l2
     by_cases m0 : u.main < 0
     ·have hm : mainP u = false := by simp [mainP]; omega
      rw [hm] at hres
      simp -implicitDefEqProofs only [g1, l4, m0, hres, go_sem]
      exact s15
     ·by_cases m1 : (u.methods.length : Int) ≤ u.main
      ·have hm : mainP u = false := by simp [mainP]; omega
       rw [hm] at hres
       simp -implicitDefEqProofs only [g1, l4, l2, m0, m1, hres, Bool.false_eq_true, go_sem]
       exact s15
      ·obtain ⟨k, hk⟩ : ∃ k : Nat, u.main = k := ⟨u.main.toNat, by omega⟩
       have kl : k < u.methods.length := by omega
       have k0 : (0 : Int) ≤ (k : Int) := by omega
       have kl' : (k : Int) < (u.methods.length : Int) := by omega
       obtain ⟨xm, om, rm, rfl, rfl, -, -, ⟨wl, wc, rfl, -⟩, rdm⟩ := bu5.methods.at kl
       have lda := rdm.one (j := 0) rfl
       rw [Nat.add_zero] at lda
       simp only [iv] at lda
       have hm : mainP u = decide (u.methods[k].args = 0) := by
        have : 0 ≤ u.main ∧ u.main < u.methods.length := by omega
        rw [mainP, decide_eq_true this, Bool.true_and, hk, Int.toNat_natCast, mAt_nat kl]
       rw [hm] at hres
       rw [hk] at l4 m0 m1
       by_cases ha : u.methods[k].args = 0
       ·have ha' : (u.methods[k].args != 0) = false := by simpa using ha
        rw [decide_eq_true ha] at hres
        simp -implicitDefEqProofs only [g1, l4, l2, m0, m1, k0, kl', lda, ha', hres, Bool.true_eq_false, Bool.false_eq_true, go_sem]
        exact s15
       ·have ha' : (u.methods[k].args != 0) = true := by simpa using ha
        rw [decide_eq_false ha] at hres
        simp -implicitDefEqProofs only [g1, l4, l2, m0, m1, k0, kl', lda, ha', hres, Bool.false_eq_true, go_sem]
        exact s15
    ·have hres : unitP u = 16 := by rw [hrest, hob]; rfl
     simp -implicitDefEqProofs only [g2, hres, go_sem]
     exact s1.trans s5
   ·rw [hbb] at hmp
    have hr : unitP u = 15 := by rw [hbad (by rw [hmp]; simp), hmp]; rfl
    simp -implicitDefEqProofs only [g2, hr, go_sem]
    exact s1.trans s4
  ·have hmp : methodsP u = firstBad u.methods.length (badMeth u) := by simp only [methodsP, hcl, hfb, Bool.false_eq_true, if_false, ne_eq, not_false_eq_true, if_true]
   have hr : unitP u = firstBad u.methods.length (badMeth u) := by rw [hbad (by rw [hmp]; exact hfb), hmp]
   simp -implicitDefEqProofs only [g2, hr, go_sem]
   exact s1.trans s3
 ·have hmp : methodsP u = 14 := by simp only [methodsP, hcl, if_true]
  have hr : unitP u = 14 := by rw [hbad (by rw [hmp]; omega), hmp]
  simp -implicitDefEqProofs only [g2, hr, go_sem]
  exact s1.trans s2
end Go.Proofs.YtbbjlbdmjikhbaaGreatDoor.AA
