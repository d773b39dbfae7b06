/- Methods; unit.Right. -/
import Derived.Test.YtojeldemfccilaaGreatDoorKImgA
set_option linter.unusedSimpArgs false
set_option linter.unusedVariables false
namespace Go.Proofs.YtojeldemfccilaaGreatDoor.AA
open Go Go.RowKit
attribute [local go_sem ↓] WP_seq WP_skip WP_region WP_dregion WP_cond WP_block WP_exit WP_ret OW_nil OW_cons DW_nil DW_cons XW_call reduceIte OW_guard DW_guard
attribute [local go_sem] XW exA KO_eq OptK_some EvK_some GW2_true GW2_false KS_normal KS_ret KS_exit KB_normal KB_ret KB_exit CP2_bool RP_ret putA_some putA_none ev_t ev_c evs evo wantA initA resA Tr.get_set vl chkOk cond_true cond_false Nat.add_zero Nat.mul_one Nat.one_mul Nat.zero_add Nat.zero_mul aggOf pInt binA unA intA beq_true beq_false Bool.not_true Bool.not_false Bool.not_eq_true and_self and_true true_and reduceIte Nat.reduceEqDiff Nat.succ_ne_self Nat.reduceAdd Nat.reduceMul Nat.reduceSub Nat.reduceBEq Nat.reduceLT Nat.reduceLeDiff Int.cast_ofNat_Int Int.reduceToNat Int.reduceLT Int.reduceLE Int.reduceGE Int.reduceGT Int.reduceEq Int.reduceNe Int.reduceAdd Int.reduceSub Int.reduceNeg decide_true decide_false Int.toNat_natCast reduceCtorEq List.nil_append List.cons_append AV.boxy AV.cells List.length_cons List.length_nil Nat.beq_refl AOp.cl KDW_0 KDW_1 KDW_2 OWskip_eq DWskip_eq fillA setAt DChk DAt stepA ble_dec beq_dec Bool.and_self Bool.and_true Bool.true_and Bool.and_false Bool.false_and List.take_succ_cons List.take_zero List.drop_succ_cons List.drop_zero List.take_nil List.drop_nil List.append_nil eqAV eqAVL BEq.rfl sameS Option.map Option.isNone wrap64 gt_iff_lt ge_iff_le Int.lt_irrefl Int.le_refl
set_option maxRecDepth 100000
set_option maxHeartbeats 4000000
attribute [local irreducible] Tr.set
def shortP (m : UMethod) : Bool := decide (m.code.length ≤ 128 ∧ m.lits.length ≤ 16 ∧ 0 ≤ m.args ∧ 0 ≤ m.temps ∧ m.args ≤ 8 ∧ m.temps ≤ 8 - m.args)
def endsP (m : UMethod) : Bool := decide (2 ≤ m.code.length ∧ m.code.length % 2 = 0 ∧ (m.code.getD (m.code.length - 2) 0 = 14 ∨ m.code.getD (m.code.length - 2) 0 = 19 ∨ m.code.getD (m.code.length - 2) 0 = 16))
def litP (u : UUnit) (v : Pr2) : Bool :=
  if v.1 = 3 then decide (-1073741824 ≤ v.2 ∧ v.2 ≤ 1073741823)
  else if v.1 = 5 then decide (0 ≤ v.2 ∧ v.2 < u.names.length)
  else if v.1 = 6 then decide (0 ≤ v.2 ∧ v.2 < u.classes.length)
  else if v.1 = 7 then decide (0 ≤ v.2 ∧ v.2 < u.methods.length)
  else false
def codeAt (m : UMethod) (i : Nat) : Bool := instP m (m.code.getD (2 * i) 0) (m.code.getD (2 * i + 1) 0) (2 * i)
def codeP (m : UMethod) : Bool := (List.range (m.code.length / 2)).all (codeAt m)
def methodP (u : UUnit) (m : UMethod) : Int := if shortP m = false then 3 else if endsP m && m.lits.all (litP u) && codeP m then 0 else 12
theorem c_short {H : AHeap} {m : UMethod} {cs : List AV} (h : MeE H m cs) : CW MN 105 [.agg cs] H fun u H' => u = .bool (shortP m) ∧ Sm H H' := by
  refine CW_of (fn := af105) rfl ?_
  dsimp only [af105, qm, q, qG, qn, qi, qb, qB, qk, qc, qo, qg, qv, qr]
  obtain ⟨wl, wc, bm, rfl⟩ := BoxM.of h
  have s1 := Chg.newRow H [.int .i64 m.args, .int .i64 m.temps, wl, wc]
  generalize eH1 : H.newRow [.int .i64 m.args, .int .i64 m.temps, wl, wc] = H1 at bm s1
  obtain ⟨a, s0, cl, rfl, -⟩ := bm.code.shape
  obtain ⟨a', s0', cl', rfl, -⟩ := bm.lits.shape
  have l0 := bm.l0; have l1 := bm.l1; have l2 := bm.l2; have l3 := bm.l3
  by_cases c1 : m.code.length ≤ 128
  · have c1' : (m.code.length : Int) ≤ 128 := by omega
    by_cases c2 : m.lits.length ≤ 16
    · have c2' : (m.lits.length : Int) ≤ 16 := by omega
      by_cases c3 : 0 ≤ m.args
      · by_cases c4 : 0 ≤ m.temps
        · by_cases c5 : m.args ≤ 8
          · have w : IntKind.i64.wrap (8 - m.args) = 8 - m.args := wrap64 (by omega) (by omega)
            simp -implicitDefEqProofs only [eH1, l0, l1, l2, l3, c1', c2', c3, c4, c5, w, go_sem]
            exact ⟨by simp [shortP, c1, c2, c3, c4, c5], s1⟩
          · simp -implicitDefEqProofs only [eH1, l0, l1, l2, l3, c1', c2', c3, c4, c5, Bool.false_eq_true, go_sem]
            exact ⟨by simp [shortP, c5], s1⟩
        · simp -implicitDefEqProofs only [eH1, l0, l1, l2, l3, c1', c2', c3, c4, Bool.false_eq_true, go_sem]
          exact ⟨by simp [shortP, c4], s1⟩
      · simp -implicitDefEqProofs only [eH1, l0, l1, l2, l3, c1', c2', c3, Bool.false_eq_true, go_sem]
        exact ⟨by simp [shortP, c3], s1⟩
    · have c2' : ¬ (m.lits.length : Int) ≤ 16 := by omega
      simp -implicitDefEqProofs only [eH1, l0, l1, l2, l3, c1', c2', Bool.false_eq_true, go_sem]
      exact ⟨by simp [shortP, c2], s1⟩
  · have c1' : ¬ (m.code.length : Int) ≤ 128 := by omega
    simp -implicitDefEqProofs only [eH1, l0, l1, l2, l3, c1', Bool.false_eq_true, go_sem]
    exact ⟨by simp [shortP, c1], s1⟩
theorem c_ends {H : AHeap} {m : UMethod} {cs : List AV} (h : MeE H m cs) (h2 : m.code.length ≤ 128) : CW MN 106 [.agg cs] H fun u H' => u = .bool (endsP m) ∧ Sm H H' := by
  refine CW_of (fn := af106) rfl ?_
  dsimp only [af106, qm, q, qG, qn, qi, qb, qB, qk, qc, qo, qg, qv, qr]
  obtain ⟨wl, wc, bm, rfl⟩ := BoxM.of h
  have s1 := Chg.newRow H [.int .i64 m.args, .int .i64 m.temps, wl, wc]
  generalize eH1 : H.newRow [.int .i64 m.args, .int .i64 m.temps, wl, wc] = H1 at bm s1
  obtain ⟨a, s0, cl, rfl, -⟩ := bm.code.shape
  have l3 := bm.l3
  by_cases c1 : 2 ≤ m.code.length
  · have c1' : ¬ (m.code.length : Int) < 2 := by omega
    by_cases c2 : m.code.length % 2 = 0
    · have pm : (((m.code.length : Int).tmod 2) != 0) = false := by
        rw [Int.tmod_eq_emod_of_nonneg (by omega)]; simp; omega
      have w : IntKind.i64.wrap ((m.code.length : Int) - 2) = ((m.code.length - 2 : Nat) : Int) := by rw [wrap64 (by omega) (by omega)]; omega
      have p0 : (0 : Int) ≤ ((m.code.length - 2 : Nat) : Int) := by omega
      have p1 : ((m.code.length - 2 : Nat) : Int) < (m.code.length : Int) := by omega
      obtain ⟨x, o, rfl, rfl, ld, hy, hx⟩ := ByE.at bm.code (i := m.code.length - 2) (by omega)
      have hg : m.code.getD (m.code.length - 2) 0 = m.code[m.code.length - 2] := by rw [List.getD_eq_getElem?_getD, List.getElem?_eq_getElem (by omega)]; rfl
      have he : endsP m = decide (m.code[m.code.length - 2] = 14 ∨ m.code[m.code.length - 2] = 19 ∨ m.code[m.code.length - 2] = 16) := by simp only [endsP, c1, c2, hg, true_and]
      generalize m.code[m.code.length - 2] = y at ld hy he
      have w3 := conv8 hy
      by_cases d1 : y = 14
      · have d1' : ((y : Int) == 14) = true := by simp [d1]
        simp -implicitDefEqProofs only [eH1, l3, c1', pm, w, p0, p1, ld, cI, w3, d1', Bool.false_eq_true, go_sem]
        exact ⟨by rw [he]; simp [d1], s1⟩
      · have d1' : ((y : Int) == 14) = false := by simp; omega
        by_cases d2 : y = 19
        · have d2' : ((y : Int) == 19) = true := by simp [d2]
          simp -implicitDefEqProofs only [eH1, l3, c1', pm, w, p0, p1, ld, cI, w3, d1', d2', Bool.false_eq_true, go_sem]
          exact ⟨by rw [he]; simp [d2], s1⟩
        · have d2' : ((y : Int) == 19) = false := by simp; omega
          by_cases d3 : y = 16
          · have d3' : ((y : Int) == 16) = true := by simp [d3]
            simp -implicitDefEqProofs only [eH1, l3, c1', pm, w, p0, p1, ld, cI, w3, d1', d2', d3', Bool.false_eq_true, go_sem]
            exact ⟨by rw [he]; simp [d3], s1⟩
          · have d3' : ((y : Int) == 16) = false := by simp; omega
            simp -implicitDefEqProofs only [eH1, l3, c1', pm, w, p0, p1, ld, cI, w3, d1', d2', d3', Bool.false_eq_true, go_sem]
            exact ⟨by rw [he]; simp [d1, d2, d3], s1⟩
    · have pm : (((m.code.length : Int).tmod 2) != 0) = true := by
        rw [Int.tmod_eq_emod_of_nonneg (by omega)]; simp; omega
      simp -implicitDefEqProofs only [eH1, l3, c1', pm, Bool.false_eq_true, go_sem]
      exact ⟨by simp [endsP, c2], s1⟩
  · have c1' : (m.code.length : Int) < 2 := by omega
    simp -implicitDefEqProofs only [eH1, l3, c1', go_sem]
    exact ⟨by simp [endsP, c1], s1⟩
theorem c_lit {H : AHeap} {u : UUnit} {cu : List AV} (h : UnE H u cu) (v : Pr2) : CW MN 108 [.agg (prC v), .agg cu] H fun w H' => w = .bool (litP u v) ∧ Sm H H' := by
  refine CW_of (fn := af108) rfl ?_
  dsimp only [af108, qm, q, qG, qn, qi, qb, qB, qk, qc, qo, qg, qv, qr]
  have s1 := Chg.newRow H (prC v)
  have r1 := Rd.newRow H (prC v)
  generalize eH1 : H.newRow (prC v) = H1 at r1 s1
  obtain ⟨v1, v2, v3, v4, bu, rfl⟩ := BoxU.of (MonoE.un _ _ _ _ h s1)
  have s2 := Chg.newRow H1 [v1, v2, v3, v4, .int .i64 u.main]
  generalize eH2 : H1.newRow [v1, v2, v3, v4, .int .i64 u.main] = H2 at bu s2
  have r2 := r1.keep (H' := H2) s2.1 (s2.gt r1.1)
  obtain ⟨a1, z1, c1, rfl, -⟩ := bu.names.shape
  obtain ⟨a2, z2, c2, rfl, -⟩ := bu.classes.shape
  obtain ⟨a3, z3, c3, rfl, -⟩ := bu.methods.shape
  have l0 := r2.one (j := 0) rfl
  have l1 := r2.one (j := 1) rfl
  rw [Nat.zero_add] at l0 l1
  have n0 := bu.l0; have n1 := bu.l1; have n2 := bu.l2
  have s12 := s1.trans s2
  obtain ⟨k, n⟩ := v
  simp only [iv] at l0 l1
  by_cases k3 : k = 3
  · subst k3
    by_cases h1 : -1073741824 ≤ n
    · simp -implicitDefEqProofs only [eH1, eH2, l0, l1, h1, Int.reduceBEq, go_sem]
      exact ⟨by simp [litP, h1], s12⟩
    · simp -implicitDefEqProofs only [eH1, eH2, l0, l1, h1, Int.reduceBEq, Bool.false_eq_true, go_sem]
      exact ⟨by simp [litP, h1], s12⟩
  · have k3' : (k == 3) = false := by simpa using k3
    by_cases k5 : k = 5
    · subst k5
      by_cases h1 : 0 ≤ n
      · simp -implicitDefEqProofs only [eH1, eH2, l0, l1, n0, h1, Int.reduceBEq, Bool.false_eq_true, go_sem]
        exact ⟨by simp [litP, h1], s12⟩
      · simp -implicitDefEqProofs only [eH1, eH2, l0, l1, n0, h1, Int.reduceBEq, Bool.false_eq_true, go_sem]
        exact ⟨by simp [litP, h1], s12⟩
    · have k5' : (k == 5) = false := by simpa using k5
      by_cases k6 : k = 6
      · subst k6
        by_cases h1 : 0 ≤ n
        · simp -implicitDefEqProofs only [eH1, eH2, l0, l1, n1, h1, Int.reduceBEq, Bool.false_eq_true, go_sem]
          exact ⟨by simp [litP, h1], s12⟩
        · simp -implicitDefEqProofs only [eH1, eH2, l0, l1, n1, h1, Int.reduceBEq, Bool.false_eq_true, go_sem]
          exact ⟨by simp [litP, h1], s12⟩
      · have k6' : (k == 6) = false := by simpa using k6
        by_cases k7 : k = 7
        · subst k7
          by_cases h1 : 0 ≤ n
          · simp -implicitDefEqProofs only [eH1, eH2, l0, l1, n2, h1, Int.reduceBEq, Bool.false_eq_true, go_sem]
            exact ⟨by simp [litP, h1], s12⟩
          · simp -implicitDefEqProofs only [eH1, eH2, l0, l1, n2, h1, Int.reduceBEq, Bool.false_eq_true, go_sem]
            exact ⟨by simp [litP, h1], s12⟩
        · have k7' : (k == 7) = false := by simpa using k7
          simp -implicitDefEqProofs only [eH1, eH2, l0, l1, k3', k5', k6', k7', Bool.false_eq_true, go_sem]
          exact ⟨by simp [litP, k3, k5, k6, k7], s12⟩
set_option maxHeartbeats 4000000
theorem codeAt_nat {m : UMethod} {pc : Nat} (hp : pc % 2 = 0) (hl : pc + 1 < m.code.length) : codeAt m (pc / 2) = instP m m.code[pc] m.code[pc + 1] pc := by
  have e : 2 * (pc / 2) = pc := by omega
  unfold codeAt
  rw [e]
  have e1 : m.code.getD pc 0 = m.code[pc] := by rw [List.getD_eq_getElem?_getD, List.getElem?_eq_getElem (by omega)]; rfl
  have e2 : m.code.getD (pc + 1) 0 = m.code[pc + 1] := by rw [List.getD_eq_getElem?_getD, List.getElem?_eq_getElem hl]; rfl
  rw [e1, e2]
theorem codeP_bad {m : UMethod} {pc : Nat} (hp : pc % 2 = 0) (hl : pc + 1 < m.code.length) (h : instP m m.code[pc] m.code[pc + 1] pc = false) : codeP m = false :=
  List.all_eq_false.2 ⟨pc / 2, List.mem_range.2 (by omega), by rw [codeAt_nat hp hl, h]; simp⟩
theorem codeP_all {m : UMethod} (h : ∀ i, i < m.code.length / 2 → codeAt m i = true) : codeP m = true :=
  List.all_eq_true.2 fun i hi => h i (List.mem_range.1 hi)
theorem shortP_m {m : UMethod} (h : shortP m = true) : m.code.length ≤ 128 ∧ 0 ≤ m.args ∧ m.args ≤ 8 ∧ 0 ≤ m.temps ∧ m.temps ≤ 8 := by
  simp only [shortP, decide_eq_true_eq] at h
  omega
theorem endsP_even {m : UMethod} (h : endsP m = true) : m.code.length % 2 = 0 := by
  simp only [endsP, decide_eq_true_eq] at h
  exact h.2.1
theorem c_codeRight1 {H : AHeap} {u : UUnit} {b : Nat} {v1 v2 v3 v4 : AV} (bu : BoxU H u b v1 v2 v3 v4) (v : Pr2) : CW MN 107 [.agg (prC v), .ptr (some (b, 0))] H fun w H' => w = .bool (!litP u v) ∧ Sm H H' := by
  refine CW_of (fn := af107) rfl ?_
  dsimp only [af107, qm, q, qG, qn, qi, qb, qB, qk, qc, qo, qg, qv, qr]
  have s1 := Chg.newRow H (prC v)
  have l1 := (Rd.newRow H (prC v)).load (n := 2) rfl
  have bu1 := bu.sm s1
  generalize eH1 : H.newRow (prC v) = H1 at l1 s1 bu1
  have la := bu1.all
  simp -implicitDefEqProofs only [eH1, l1, la, go_sem]
  refine CW.mono (c_lit bu1.un v) ?_
  rintro w H2 ⟨rfl, s2⟩
  simp -implicitDefEqProofs only [go_sem]
  exact s1.trans s2
theorem c_codeRight {H : AHeap} {u : UUnit} {cu : List AV} (hu : UnE H u cu) {m : UMethod} {cs : List AV} (h : MeE H m cs) : CW MN 90 [.agg cs, .agg cu] H fun w H' => w = .int .i64 (methodP u m) ∧ Sm H H' := by
  refine CW_of (fn := af90) rfl ?_
  dsimp only [af90, qm, q, qG, qn, qi, qb, qB, qk, qc, qo, qg, qv, qr]
  obtain ⟨wl, wc, bm, rfl⟩ := BoxM.of h
  have s1 := Chg.newRow H [.int .i64 m.args, .int .i64 m.temps, wl, wc]
  have hn1 : (H.newRow [.int .i64 m.args, .int .i64 m.temps, wl, wc]).next = H.next + 1 := rfl
  generalize eH1 : H.newRow [.int .i64 m.args, .int .i64 m.temps, wl, wc] = H1 at bm s1 hn1
  obtain ⟨v1, v2, v3, v4, bu, rfl⟩ := BoxU.of (MonoE.un _ _ _ _ hu s1)
  have s2 := Chg.newRow H1 [v1, v2, v3, v4, .int .i64 u.main]
  generalize eH2 : H1.newRow [v1, v2, v3, v4, .int .i64 u.main] = H2 at bu s2
  have bm := bm.sm s2
  obtain ⟨a, s0, cl, rfl, -⟩ := bm.code.shape
  obtain ⟨a', s0', cl', rfl, -⟩ := bm.lits.shape
  have mm := bm.all
  have s12 := s1.trans s2
  simp -implicitDefEqProofs only [eH1, eH2, mm, go_sem]
  refine CW.mono (c_short bm.me) ?_
  rintro w H3 ⟨rfl, s3⟩
  have s13 := s12.trans s3
  cases hs : shortP m with
  | false =>
    simp -implicitDefEqProofs only [go_sem]
    exact ⟨by simp [methodP, hs], s13⟩
  | true =>
    obtain ⟨hcl, ma⟩ := shortP_m hs
    have bm := bm.sm s3
    have bu := bu.sm s3
    have mm := bm.all
    simp -implicitDefEqProofs only [mm, Bool.false_eq_true, go_sem]
    refine CW.mono (c_ends bm.me hcl) ?_
    rintro w H4 ⟨rfl, s4⟩
    have s14 := s13.trans s4
    cases he : endsP m with
    | false =>
      simp -implicitDefEqProofs only [Bool.false_eq_true, go_sem]
      exact ⟨by simp [methodP, hs, he], s14⟩
    | true =>
      have heven := endsP_even he
      have bm := bm.sm s4
      have bu := bu.sm s4
      have ml := bm.l2
      simp -implicitDefEqProofs only [ml, Bool.false_eq_true, go_sem]
      refine CW.mono (c_contF (f := 114) (f' := 93) (s := 2) rfl rfl MonoE.enc bm.lits (p := fun v => !litP u v) ?_) ?_
      · rintro j hj r G s ⟨rfl, -⟩ -
        exact c_codeRight1 (bu.sm s) _
      rintro w H5 ⟨rfl, s5⟩
      have s15 := s14.trans s5
      have bm := bm.sm s5
      cases hl : m.lits.any fun v => !litP u v with
      | true =>
        have hl' : m.lits.all (litP u) = false := by
          rw [List.any_eq_true] at hl
          obtain ⟨x, hx, hb⟩ := hl
          exact List.all_eq_false.2 ⟨x, hx, by simpa using hb⟩
        simp -implicitDefEqProofs only [Bool.false_eq_true, go_sem]
        exact ⟨by simp only [methodP, hs, he, hl', Bool.and_false, Bool.false_and, Bool.false_eq_true, if_false, Bool.true_eq_false], s15⟩
      | false =>
        have hl' : m.lits.all (litP u) = true := by
          rw [List.any_eq_false] at hl
          exact List.all_eq_true.2 fun x hx => by simpa using hl x hx
        have hres : methodP u m = if codeP m then 0 else 12 := by simp only [methodP, hs, he, hl', Bool.true_and, Bool.and_true, Bool.true_eq_false, if_false]
        simp -implicitDefEqProofs only [Bool.false_eq_true, go_sem]
        refine WP_loop (fun k fr H' => ∃ pc : Nat, k = m.code.length - pc ∧ pc ≤ m.code.length ∧ pc % 2 = 0 ∧ (∀ i, i < pc / 2 → codeAt m i = true) ∧ fr.get 2 = some (.ptr (some (H.next, 0))) ∧ fr.get 5 = some (.int .i64 pc) ∧ Sm H H' ∧ BoxM H' m [.int .i64 m.args, .int .i64 m.temps, .slice a' s0' m.lits.length cl', .slice a s0 m.code.length cl] H.next (.slice a' s0' m.lits.length cl') (.slice a s0 m.code.length cl)) m.code.length ?_ ?_
        · refine ⟨0, rfl, by omega, rfl, fun i hi => by omega, ?_⟩
          simp -implicitDefEqProofs only [go_sem]
          exact ⟨s15, bm⟩
        · rintro k fr H6 ⟨pc, hk, hpc, hev, hall, g2, g5, s6, bm6⟩
          have mc := bm6.l3
          by_cases hlt : pc < m.code.length
          · have hlt' : (pc : Int) < (m.code.length : Int) := by omega
            have hpl : pc + 1 < m.code.length := by omega
            have mm := bm6.all
            have hw : IntKind.i64.wrap ((pc : Int) + 2) = ((pc + 2 : Nat) : Int) := by rw [wrap64 (by omega) (by omega)]; omega
            have hy : m.code[pc] < 256 := by
              obtain ⟨x, o, -, -, -, hy, -⟩ := ByE.at bm6.code (i := pc) (by omega)
              exact hy
            have ha : m.code[pc + 1] < 256 := by
              obtain ⟨x, o, -, -, -, hy, -⟩ := ByE.at bm6.code hpl
              exact hy
            simp -implicitDefEqProofs only [g2, g5, mc, mm, hlt', go_sem]
            refine CW.mono (c_fetch bm6.me pc hev hpl (by omega)) ?_
            rintro w H7 ⟨rfl, s7⟩
            obtain ⟨H8, q1, q2, s8, r8⟩ := store_new H7 [.int .i64 0, .int .i64 0] [.int .i64 (m.code[pc] : Int), .int .i64 (m.code[pc + 1] : Int)] rfl
            have l8 := r8.load (n := 2) rfl
            have s78 := s7.trans s8
            have bm8 := bm6.sm s78
            have mm := bm8.all
            simp -implicitDefEqProofs only [g2, g5, at0, at1, q1, l8, mm, Bool.false_eq_true, go_sem]
            refine CW.mono (c_inst bm8.me hy ha (by omega) ma) ?_
            rintro w H9 ⟨rfl, s9⟩
            have s69 := s78.trans s9
            cases hi : instP m m.code[pc] m.code[pc + 1] pc with
            | false =>
              simp -implicitDefEqProofs only [go_sem]
              exact ⟨by rw [hres, codeP_bad hev hpl hi]; rfl, s6.trans s69⟩
            | true =>
              simp -implicitDefEqProofs only [g2, g5, hw, Bool.false_eq_true, go_sem]
              refine ⟨m.code.length - (pc + 2), by omega, pc + 2, rfl, by omega, by omega, fun i hi' => ?_, rfl, s6.trans s69, bm6.sm s69⟩
              by_cases e : i = pc / 2
              · subst e; rw [codeAt_nat hev hpl, hi]
              · exact hall i (by omega)
          · have hlt' : ¬ (pc : Int) < (m.code.length : Int) := by omega
            have := codeP_all fun i hi => hall i (by omega)
            simp -implicitDefEqProofs only [g2, g5, mc, hlt', Bool.false_eq_true, go_sem]
            exact ⟨by rw [hres, this]; rfl, s6⟩
set_option maxHeartbeats 4000000
def NmN (H0 H : AHeap) (b r : Nat) (l : List (List Nat)) : Prop := Sm H0 H ∧ ∃ D : Nat → Prop, NamR H b r D l ∧ H0.next ≤ b ∧ H0.next ≤ r ∧ ∀ x, D x → H0.next ≤ x
theorem nm_New (H : AHeap) : CW MN 83 [] H fun v H' => ∃ b r, v = .ptr (some (b, 0)) ∧ NmN H H' b r [] :=
  (c_NewN H).mono fun v H' ⟨b, r, e, n, h1, h2, s⟩ => ⟨b, r, e, s, _, n, h1, h2, fun _ h => h.elim⟩
theorem nm_Intern {H0 H : AHeap} {b r : Nat} {l : List (List Nat)} {s : List Nat} (h : NmN H0 H b r l) (hs : stOk s) : CW MN 84 [.ptr (some (b, 0)), .str s] H fun v H' => v = .int .i64 (internP l s).1 ∧ NmN H0 H' b r (internP l s).2 := by
  obtain ⟨s0, D, n, h1, h2, h3⟩ := h
  refine (c_Intern n hs.1 hs.2).mono fun v H' ⟨e, n', el⟩ => ⟨e, Sm.of (Nat.le_trans s0.1 el.1) fun x hx => ?_, _, n', h1, h2, ?_⟩
  · rw [el.2 x (by have := s0.1; omega) (by omega) (by omega) (fun hd => by have := h3 x hd; omega), s0.gt hx]
  · rintro x (hd | hd)
    · exact h3 x hd
    · have := s0.1; omega
theorem NmN.sm {H0 H H' : AHeap} {b r : Nat} {l : List (List Nat)} (h : NmN H0 H b r l) (s : Sm H H') : NmN H0 H' b r l := by
  obtain ⟨s0, D, n, h1, h2, h3⟩ := h
  exact ⟨s0.trans s, D, n.sm s, h1, h2, h3⟩
theorem StE.at {H : AHeap} {l : List (List Nat)} {a : Option (Nat × Nat)} {s0 n : Nat} {cl : Bool} (h : SlE StE 1 H l [.slice a s0 n cl]) {i : Nat} (hi : i < l.length) : ∃ x o, a = some (x, o) ∧ s0 = 1 ∧ loadA H x (o + i) 1 = some [.str l[i]] ∧ stOk l[i] ∧ x < H.next := by
  obtain ⟨x, o, r, rfl, rfl, ld, hl, ⟨rfl, h1⟩, hr⟩ := h.at hi
  rw [Nat.mul_one] at ld
  exact ⟨x, o, rfl, rfl, ld, h1, hr.1⟩
def nameAt (l : List (List Nat)) (i : Nat) : Bool := rightP (l.getD i []) && !((l.take i).any fun x => x == l.getD i [])
def namesP (l : List (List Nat)) : Bool := (List.range l.length).all (nameAt l)
theorem nameAt_nat {l : List (List Nat)} {i : Nat} (h : i < l.length) : nameAt l i = (rightP l[i] && !((l.take i).any fun x => x == l[i])) := by
  have : l.getD i [] = l[i] := by rw [List.getD_eq_getElem?_getD, List.getElem?_eq_getElem h]; rfl
  rw [nameAt, this]
theorem namesP_bad {l : List (List Nat)} {i : Nat} (h : i < l.length) (hb : nameAt l i = false) : namesP l = false := List.all_eq_false.2 ⟨i, List.mem_range.2 h, by rw [hb]; simp⟩
theorem namesP_all {l : List (List Nat)} (h : ∀ i, i < l.length → nameAt l i = true) : namesP l = true := List.all_eq_true.2 fun i hi => h i (List.mem_range.1 hi)
theorem intern_take {l : List (List Nat)} {i : Nat} (hi : i < l.length) (h48 : l.length ≤ 48) : (nameAt l i = true → internP (l.take i) l[i] = ((i : Int), l.take (i + 1))) ∧ (nameAt l i = false → (internP (l.take i) l[i]).1 ≠ (i : Int)) := by
  rw [nameAt_nat hi]
  have hl : (l.take i).length = i := by simp; omega
  have hmem : ((l.take i).any fun x => x == l[i]) = true ↔ l[i] ∈ l.take i := by
    rw [List.any_eq_true]
    constructor
    · rintro ⟨x, hx, e⟩; have : x = l[i] := by simpa using e
      exact this ▸ hx
    · intro h; exact ⟨_, h, by simp⟩
  have e1 : l.take (i + 1) = l.take i ++ [l[i]] := take_snoc hi
  rw [e1]
  clear e1
  generalize l[i] = s at *
  constructor
  · intro h
    simp only [Bool.and_eq_true, Bool.not_eq_true'] at h
    have hn : idxP (l.take i) s = none := by
      unfold idxP
      rw [List.findIdx?_eq_none_iff]
      intro x hx
      have := List.any_eq_false.1 h.2 x hx
      simpa using this
    unfold internP
    rw [if_pos h.1, hn]
    dsimp only
    rw [if_neg (by omega), hl]
  · intro h
    cases hr : rightP s with
    | false => simp [internP, hr]
    | true =>
      rw [hr, Bool.true_and] at h
      have hin : ((l.take i).any fun x => x == s) = true := by
        cases hh : (l.take i).any fun x => x == s
        · rw [hh] at h; cases h
        · rfl
      unfold internP
      rw [if_pos hr]
      cases hx : idxP (l.take i) s with
      | none =>
        unfold idxP at hx
        rw [List.findIdx?_eq_none_iff] at hx
        obtain ⟨y, hy, e⟩ := List.any_eq_true.1 hin
        rw [hx y hy] at e; cases e
      | some j =>
        unfold idxP at hx
        rw [List.findIdx?_eq_some_iff_getElem] at hx
        obtain ⟨h1, -⟩ := hx
        dsimp only
        omega
theorem c_names {H : AHeap} {l : List (List Nat)} {v : AV} (h : SlE StE 1 H l [v]) (h48 : l.length ≤ 48) : CW MN 56 [v] H fun w H' => w = .int .i64 (if namesP l then 0 else 13) ∧ Sm H H' := by
  refine CW_of (fn := af56) rfl ?_
  obtain ⟨a, s0, cl, rfl, -⟩ := h.shape
  have hmax := h.max
  dsimp only [af56, qm, q, qG, qn, qi, qb, qB, qk, qc, qo, qg, qv, qr]
  simp -implicitDefEqProofs only [go_sem]
  refine CW.mono (nm_New H) ?_
  rintro w H1 ⟨b, r, rfl, t1⟩
  simp -implicitDefEqProofs only [go_sem]
  refine WP_loop (fun k fr H' => ∃ i : Nat, k = l.length - i ∧ i ≤ l.length ∧ (∀ j, j < i → nameAt l j = true) ∧ fr.get 3 = some (.ptr (some (b, 0))) ∧ fr.get 7 = some (.slice a s0 l.length cl) ∧ fr.get 8 = some (.int .i64 l.length) ∧ fr.get 9 = some (.int .i64 i) ∧ NmN H H' b r (l.take i)) l.length ?_ ?_
  · refine ⟨0, rfl, by omega, fun j hj => by omega, ?_⟩
    simp -implicitDefEqProofs only [List.take_zero, go_sem]
    exact t1
  · rintro k fr H2 ⟨i, hk, hi, hall, g3, g7, g8, g9, t2⟩
    have i0 : (0 : Int) ≤ (i : Int) := by omega
    by_cases hlt : i < l.length
    · have hlt' : (i : Int) < (l.length : Int) := by omega
      have hw := wrapS hlt hmax
      have h2 := MonoE.enc.sl _ _ _ _ h t2.1
      obtain ⟨x, o, rfl, rfl, ld, hok, -⟩ := StE.at h2 hlt
      obtain ⟨q1, q2⟩ := intern_take hlt h48
      have bad : nameAt l i = false → namesP l = false := namesP_bad hlt
      generalize l[i] = s at ld hok q1 q2
      simp -implicitDefEqProofs only [g3, g7, g8, g9, hlt', i0, ld, go_sem]
      refine CW.mono (nm_Intern t2 hok) ?_
      rintro w H3 ⟨rfl, t3⟩
      cases hn : nameAt l i with
      | true =>
        rw [q1 hn] at t3 ⊢
        simp -implicitDefEqProofs only [g3, g7, g8, g9, hw, bne_self_eq_false, Bool.false_eq_true, go_sem]
        refine ⟨l.length - (i + 1), by omega, i + 1, rfl, by omega, fun j hj => ?_, rfl, t3⟩
        by_cases e : j = i
        · subst e; exact hn
        · exact hall j (by omega)
      | false =>
        have hb : ((internP (l.take i) s).1 != (i : Int)) = true := by simpa using q2 hn
        simp -implicitDefEqProofs only [g3, g7, g8, g9, hb, go_sem]
        exact ⟨by rw [bad hn]; rfl, t3.1⟩
    · have hlt' : ¬ (i : Int) < (l.length : Int) := by omega
      have := namesP_all fun j hj => hall j (by omega)
      simp -implicitDefEqProofs only [g3, g7, g8, g9, hlt', this, Bool.false_eq_true, go_sem]
      exact t2.1
set_option maxHeartbeats 4000000
theorem any_at {α : Type} {p : α → Bool} {l : List α} {i : Nat} (h : i < l.length) (hp : p l[i] = true) : l.any p = true := List.any_eq_true.2 ⟨_, List.getElem_mem h, hp⟩
theorem any_no {α : Type} {p : α → Bool} {l : List α} (h : ∀ i (hi : i < l.length), p l[i] = false) : l.any p = false := List.any_eq_false.2 fun x hx => by
  obtain ⟨j, hj, rfl⟩ := List.getElem_of_mem hx
  rw [h j hj]; simp
def dM : UMethod := ⟨0, 0, [], []⟩
def mAt (u : UUnit) (i : Nat) : UMethod := u.methods.getD i dM
theorem mAt_nat {u : UUnit} {i : Nat} (h : i < u.methods.length) : mAt u i = u.methods[i] := by rw [mAt, List.getD_eq_getElem?_getD, List.getElem?_eq_getElem h]; rfl
def badBind (u : UUnit) (b : Pr2) : Bool := argsP (u.names.getD b.1.toNat []) != (mAt u b.2.toNat).args
def badDict (c : UClass) : Bool := !dictP c.binds
def badMeth (u : UUnit) (i : Nat) : Int := methodP u (mAt u i)
def methodsP (u : UUnit) : Int :=
  if u.classes.any badDict = true then 14
  else if firstBad u.methods.length (badMeth u) ≠ 0 then firstBad u.methods.length (badMeth u)
  else if (u.classes.any fun c => c.binds.any (badBind u)) = true then 15 else 0
def bindsOk (u : UUnit) : Prop := ∀ c, c ∈ u.classes → ∀ b, b ∈ c.binds → 0 ≤ b.1 ∧ b.1 < u.names.length ∧ 0 ≤ b.2 ∧ b.2 < u.methods.length
theorem c_methods {H : AHeap} {u : UUnit} {cu : List AV} (hu : UnE H u cu) (hbk : bindsOk u) : CW MN 58 [.agg cu] H fun w H' => w = .int .i64 (methodsP u) ∧ Sm H H' := by
  refine CW_of (fn := af58) rfl ?_
  dsimp only [af58, qm, q, qG, qn, qi, qb, qB, qk, qc, qo, qg, qv, qr]
  obtain ⟨v1, v2, v3, v4, bu, rfl⟩ := BoxU.of hu
  have s1 := Chg.newRow H [v1, v2, v3, v4, .int .i64 u.main]
  have hn1 : (H.newRow [v1, v2, v3, v4, .int .i64 u.main]).next = H.next + 1 := rfl
  generalize eH1 : H.newRow [v1, v2, v3, v4, .int .i64 u.main] = H1 at bu s1 hn1
  obtain ⟨a1, z1, c1, rfl, -⟩ := bu.names.shape
  obtain ⟨a2, z2, c2, rfl, -⟩ := bu.classes.shape
  obtain ⟨a3, z3, c3, rfl, -⟩ := bu.methods.shape
  have m2 := bu.classes.max
  have m3 := bu.methods.max
  have l1 := bu.l1
  simp -implicitDefEqProofs only [eH1, l1, go_sem]
  refine WP_mono (Q := fun ex fr H' => ex = .exit 0 ∧ u.classes.any badDict = false ∧ fr.get 1 = some (.ptr (some (H.next, 0))) ∧ Sm H1 H' ∨ ex = .ret ∧ u.classes.any badDict = true ∧ fr.get 2 = some (.int .i64 14) ∧ Sm H1 H') ?_ (WP_loop (fun k fr H' => ∃ i : Nat, k = u.classes.length - i ∧ i ≤ u.classes.length ∧ (∀ j (hj : j < u.classes.length), j < i → badDict u.classes[j] = false) ∧ fr.get 1 = some (.ptr (some (H.next, 0))) ∧ fr.get 15 = some (.slice a2 z2 u.classes.length c2) ∧ fr.get 16 = some (.int .i64 u.classes.length) ∧ fr.get 17 = some (.int .i64 i) ∧ Sm H1 H') u.classes.length ?_ ?_)
  rotate_left
  · refine ⟨0, rfl, by omega, fun j hj hj' => by omega, ?_⟩
    simp -implicitDefEqProofs only [go_sem]
    exact Chg.refl H1
  · rintro k fr H2 ⟨i, hk, hi, hall, g1, g15, g16, g17, s2⟩
    have i0 : (0 : Int) ≤ (i : Int) := by omega
    by_cases hlt : i < u.classes.length
    · have hlt' : (i : Int) < (u.classes.length : Int) := by omega
      have hw := wrapS hlt m2
      obtain ⟨x, o, vb, rfl, rfl, ld, -, -, -, -, hvb, -⟩ := ClE.at (bu.sm s2).classes hlt
      obtain ⟨H3, q1, q2, s3, r3⟩ := store_new H2 [.str [], .int .i64 0, .int .i64 0, .slice none 1 0 true] [.str u.classes[i].name, iv u.classes[i].super, iv u.classes[i].fields, vb] rfl
      have lb := r3.one (j := 3) rfl
      rw [Nat.zero_add] at lb
      simp only [iv] at ld q1
      simp -implicitDefEqProofs only [g1, g15, g16, g17, hlt', i0, ld, q1, lb, go_sem]
      refine CW.mono (c_dOf (MonoE.enc.sl _ _ _ _ hvb s3)) ?_
      rintro w H4 ⟨⟨p, rfl⟩, s4⟩
      cases hd : dictP u.classes[i].binds with
      | false =>
        simp -implicitDefEqProofs only [at0, at1, go_sem]
        exact .inr ⟨any_at hlt (by simp [badDict, hd]), (s2.trans s3).trans s4⟩
      | true =>
        simp -implicitDefEqProofs only [g1, g15, g16, g17, at0, at1, hw, Bool.false_eq_true, go_sem]
        refine ⟨u.classes.length - (i + 1), by omega, i + 1, rfl, by omega, fun j hj hj' => ?_, rfl, (s2.trans s3).trans s4⟩
        by_cases e : j = i
        · subst e; simp [badDict, hd]
        · exact hall j hj (by omega)
    · have hlt' : ¬ (i : Int) < (u.classes.length : Int) := by omega
      simp -implicitDefEqProofs only [g1, g15, g16, g17, hlt', Bool.false_eq_true, go_sem]
      exact .inl ⟨any_no fun j hj => hall j hj (by omega), s2⟩
  rintro ex fr H2 (⟨rfl, hcl, g1, s2⟩ | ⟨rfl, hcl, g2, s2⟩)
  · have bu2 := bu.sm s2
    have l2 := bu2.l2
    simp -implicitDefEqProofs only [g1, l2, go_sem]
    refine WP_mono (Q := fun ex fr H' => ex = .exit 2 ∧ firstBad u.methods.length (badMeth u) = 0 ∧ fr.get 1 = some (.ptr (some (H.next, 0))) ∧ Sm H1 H' ∨ ex = .ret ∧ firstBad u.methods.length (badMeth u) ≠ 0 ∧ fr.get 2 = some (.int .i64 (firstBad u.methods.length (badMeth u))) ∧ Sm H1 H') ?_ (WP_loop (fun k fr H' => ∃ i : Nat, k = u.methods.length - i ∧ i ≤ u.methods.length ∧ (∀ j, j < i → badMeth u j = 0) ∧ fr.get 1 = some (.ptr (some (H.next, 0))) ∧ fr.get 31 = some (.slice a3 z3 u.methods.length c3) ∧ fr.get 32 = some (.int .i64 u.methods.length) ∧ fr.get 33 = some (.int .i64 i) ∧ Sm H1 H') u.methods.length ?_ ?_)
    rotate_left
    · refine ⟨0, rfl, by omega, fun j hj => by omega, ?_⟩
      simp -implicitDefEqProofs only [g1, go_sem]
      exact s2
    · rintro k fr H3 ⟨i, hk, hi, hall, g1, g31, g32, g33, s3⟩
      have i0 : (0 : Int) ≤ (i : Int) := by omega
      by_cases hlt : i < u.methods.length
      · have hlt' : (i : Int) < (u.methods.length : Int) := by omega
        have hw := wrapS hlt m3
        obtain ⟨x, o, r, rfl, rfl, ld, hl, hm, -⟩ := (bu.sm s3).methods.at hlt
        obtain ⟨H4, q1, q2, s4, r4⟩ := store_new H3 [.int .i64 0, .int .i64 0, .slice none 1 0 true, .slice none 1 0 true] r hl
        have l4 := r4.load (n := 4) hl
        have bu4 := bu.sm (s3.trans s4)
        have la := bu4.all
        simp -implicitDefEqProofs only [g1, g31, g32, g33, hlt', i0, ld, hl, q1, l4, la, go_sem]
        refine CW.mono (c_codeRight bu4.un (MonoE.me _ _ _ _ hm s4)) ?_
        rintro w H5 ⟨rfl, s5⟩
        have he : badMeth u i = methodP u u.methods[i] := by rw [badMeth, mAt_nat hlt]
        rw [← he]
        by_cases hb : badMeth u i = 0
        · have hb' : (badMeth u i != 0) = false := by simpa using hb
          simp -implicitDefEqProofs only [g1, g31, g32, g33, hb', hw, Bool.false_eq_true, go_sem]
          refine ⟨u.methods.length - (i + 1), by omega, i + 1, rfl, by omega, fun j hj => ?_, rfl, (s3.trans s4).trans s5⟩
          by_cases e : j = i
          · subst e; exact hb
          · exact hall j (by omega)
        · have hb' : (badMeth u i != 0) = true := by simpa using hb
          have hf := firstBad_at hall hlt hb
          simp -implicitDefEqProofs only [g1, hb', hf, go_sem]
          exact .inr ⟨hb, (s3.trans s4).trans s5⟩
      · have hlt' : ¬ (i : Int) < (u.methods.length : Int) := by omega
        simp -implicitDefEqProofs only [g1, g31, g32, g33, hlt', Bool.false_eq_true, go_sem]
        exact .inl ⟨firstBad_no fun j hj => hall j (by omega), s3⟩
    rintro ex fr H3 (⟨rfl, hfb, g1, s3⟩ | ⟨rfl, hfb, g2, s3⟩)
    · have bu3 := bu.sm s3
      have l1 := bu3.l1
      have hres : methodsP u = if (u.classes.any fun c => c.binds.any (badBind u)) = true then 15 else 0 := by simp only [methodsP, hcl, hfb, Bool.false_eq_true, if_false, ne_eq, not_true_eq_false]
      simp -implicitDefEqProofs only [g1, l1, go_sem]
      refine WP_loop (fun k fr H' => ∃ i : Nat, k = u.classes.length - i ∧ i ≤ u.classes.length ∧ (∀ j (hj : j < u.classes.length), j < i → u.classes[j].binds.any (badBind u) = false) ∧ fr.get 1 = some (.ptr (some (H.next, 0))) ∧ fr.get 45 = some (.slice a2 z2 u.classes.length c2) ∧ fr.get 46 = some (.int .i64 u.classes.length) ∧ fr.get 47 = some (.int .i64 i) ∧ Sm H1 H') u.classes.length ?_ ?_
      · refine ⟨0, rfl, by omega, fun j hj hj' => by omega, ?_⟩
        simp -implicitDefEqProofs only [g1, go_sem]
        exact s3
      · rintro k fr H4 ⟨i, hk, hi, hall, g1, g45, g46, g47, s4⟩
        have i0 : (0 : Int) ≤ (i : Int) := by omega
        by_cases hlt : i < u.classes.length
        · have hlt' : (i : Int) < (u.classes.length : Int) := by omega
          have hw := wrapS hlt m2
          obtain ⟨x, o, vb, rfl, rfl, ld, -, -, -, -, hvb, -⟩ := ClE.at (bu.sm s4).classes hlt
          obtain ⟨H5, q1, q2, s5, r5⟩ := store_new H4 [.str [], .int .i64 0, .int .i64 0, .slice none 1 0 true] [.str u.classes[i].name, iv u.classes[i].super, iv u.classes[i].fields, vb] rfl
          have lb := r5.one (j := 3) rfl
          rw [Nat.zero_add] at lb
          simp only [iv] at ld q1
          have hvb5 := MonoE.enc.sl _ _ _ _ hvb s5
          obtain ⟨ab, zb, cb, rfl, -⟩ := hvb5.shape
          have mb := hvb5.max
          have hcm := hbk _ (List.getElem_mem hlt)
          generalize hci : u.classes[i] = c at *
          simp -implicitDefEqProofs only [g1, g45, g46, g47, hlt', i0, ld, q1, lb, go_sem]
          refine WP_mono (Q := fun ex fr H' => ex = .exit 6 ∧ c.binds.any (badBind u) = false ∧ fr.get 1 = some (.ptr (some (H.next, 0))) ∧ fr.get 45 = some (.slice (some (x, o)) 4 u.classes.length c2) ∧ fr.get 46 = some (.int .i64 u.classes.length) ∧ fr.get 47 = some (.int .i64 i) ∧ Sm H5 H' ∨ ex = .ret ∧ c.binds.any (badBind u) = true ∧ fr.get 2 = some (.int .i64 15) ∧ Sm H5 H') ?_ (WP_loop (fun k fr H' => ∃ j : Nat, k = c.binds.length - j ∧ j ≤ c.binds.length ∧ (∀ q (hq : q < c.binds.length), q < j → badBind u c.binds[q] = false) ∧ fr.get 1 = some (.ptr (some (H.next, 0))) ∧ fr.get 45 = some (.slice (some (x, o)) 4 u.classes.length c2) ∧ fr.get 46 = some (.int .i64 u.classes.length) ∧ fr.get 47 = some (.int .i64 i) ∧ fr.get 52 = some (.slice ab zb c.binds.length cb) ∧ fr.get 53 = some (.int .i64 c.binds.length) ∧ fr.get 54 = some (.int .i64 j) ∧ Sm H5 H') c.binds.length ?_ ?_)
          rotate_left
          · refine ⟨0, rfl, by omega, fun q hq hq' => by omega, ?_⟩
            simp -implicitDefEqProofs only [g1, g45, g46, g47, go_sem]
            exact Chg.refl H5
          · rintro k fr H6 ⟨j, hk, hj, hallj, g1, g45, g46, g47, g52, g53, g54, s6⟩
            have j0 : (0 : Int) ≤ (j : Int) := by omega
            by_cases hjl : j < c.binds.length
            · have hjl' : (j : Int) < (c.binds.length : Int) := by omega
              have hwj := wrapS hjl mb
              obtain ⟨y, p, rfl, rfl, ldp, -, -, -, -, hy⟩ := PrE.at (MonoE.enc.sl _ _ _ _ hvb5 s6) hjl
              obtain ⟨H7, e1, e2, s7, r7⟩ := store_new H6 [.int .i64 0, .int .i64 0] [.int .i64 c.binds[j].1, .int .i64 c.binds[j].2] rfl
              have lf := r7.one (j := 0) rfl
              have lg := r7.one (j := 1) rfl
              rw [Nat.zero_add] at lf lg
              have hbj := hcm _ (List.getElem_mem hjl)
              have hbad : badBind u c.binds[j] = true → c.binds.any (badBind u) = true := any_at hjl
              have hbr : badBind u c.binds[j] = (argsP (u.names.getD c.binds[j].1.toNat []) != (mAt u c.binds[j].2.toNat).args) := rfl
              generalize hbb : badBind u c.binds[j] = bb at *
              generalize c.binds[j] = bd at ldp e1 lf lg hbj hbr
              obtain ⟨b1, b2⟩ := bd
              dsimp only at *
              obtain ⟨n, rfl⟩ : ∃ n : Nat, b1 = n := ⟨b1.toNat, by omega⟩
              obtain ⟨m, rfl⟩ : ∃ m : Nat, b2 = m := ⟨b2.toNat, by omega⟩
              rw [Int.toNat_natCast, Int.toNat_natCast] at hbr
              have nl : n < u.names.length := by omega
              have ml : m < u.methods.length := by omega
              have n0 : (0 : Int) ≤ (n : Int) := by omega
              have nl' : (n : Int) < (u.names.length : Int) := by omega
              have m0 : (0 : Int) ≤ (m : Int) := by omega
              have ml' : (m : Int) < (u.methods.length : Int) := by omega
              have s17 : Sm H1 H7 := ((s4.trans s5).trans s6).trans s7
              have bu7 := bu.sm s17
              have k0 := bu7.l0
              obtain ⟨xn, on, rfl, rfl, ldn, nok, -⟩ := StE.at bu7.names nl
              have eg : u.names.getD n [] = u.names[n] := by rw [List.getD_eq_getElem?_getD, List.getElem?_eq_getElem nl]; rfl
              rw [eg, mAt_nat ml] at hbr
              simp -implicitDefEqProofs only [g1, g45, g46, g47, g52, g53, g54, j0, hjl', ldp, e1, lf, k0, n0, nl', ldn, go_sem]
              refine CW.mono (c_Args nok.1 nok.2) ?_
              rintro w H8 ⟨rfl, s8⟩
              have bu8 := bu7.sm s8
              have k2 := bu8.l2
              have k0' := bu8.l0
              have lf8 : loadA H8 H6.next 0 1 = some [.int .i64 (n : Int)] := by rw [s8.ld (by omega), lf]
              have lg8 : loadA H8 H6.next 1 1 = some [.int .i64 (m : Int)] := by rw [s8.ld (by omega), lg]
              obtain ⟨xm, om, rm, rfl, rfl, -, -, ⟨wl, wc, rfl, -⟩, rdm⟩ := bu8.methods.at ml
              have lda := rdm.one (j := 0) rfl
              rw [Nat.add_zero] at lda
              simp only [iv] at lda
              have k2' := bu7.l2
              have lg7 := lg
              have lda7 : loadA H7 xm (om + m * 4) 1 = some [.int .i64 u.methods[m].args] := by
                obtain ⟨xm', om', rm', e', -, -, -, ⟨wl', wc', rfl, -⟩, rdm'⟩ := bu7.methods.at ml
                cases e'
                have := rdm'.one (j := 0) rfl
                rw [Nat.add_zero] at this
                exact this
              cases hq : (argsP u.names[n] != u.methods[m].args) with
              | true =>
                simp -implicitDefEqProofs only [g1, g45, g46, g47, g52, g53, g54, k0, k0', k2, k2', lf, lf8, lg7, lg8, lda, lda7, m0, ml', n0, nl', ldn, hq, go_sem]
                exact .inr ⟨hbad (by rw [hbr, hq]), (s6.trans s7).trans s8⟩
              | false =>
                simp -implicitDefEqProofs only [g1, g45, g46, g47, g52, g53, g54, k0, k0', k2, k2', lf, lf8, lg7, lg8, lda, lda7, m0, ml', n0, nl', ldn, hq, hwj, Bool.false_eq_true, go_sem]
                refine ⟨c.binds.length - (j + 1), by omega, j + 1, rfl, by omega, fun q hq' hqj => ?_, rfl, (s6.trans s7).trans s8⟩
                by_cases e : q = j
                · subst e; rw [hbb, hbr, hq]
                · exact hallj q hq' (by omega)
            · have hjl' : ¬ (j : Int) < (c.binds.length : Int) := by omega
              simp -implicitDefEqProofs only [g1, g45, g46, g47, g52, g53, g54, hjl', Bool.false_eq_true, go_sem]
              exact .inl ⟨any_no fun q hq => hallj q hq (by omega), s6⟩
          rintro ex fr H6 (⟨rfl, hno, g1, g45, g46, g47, s6⟩ | ⟨rfl, hye, g2, s6⟩)
          · simp -implicitDefEqProofs only [g1, g45, g46, g47, hw, go_sem]
            refine ⟨u.classes.length - (i + 1), by omega, i + 1, rfl, by omega, fun j hj hj' => ?_, rfl, (s4.trans s5).trans s6⟩
            by_cases e : j = i
            · subst e; rw [hci]; exact hno
            · exact hall j hj (by omega)
          · simp -implicitDefEqProofs only [g2, go_sem]
            refine ⟨?_, ((s1.trans s4).trans s5).trans s6⟩
            rw [hres, if_pos (any_at (i := i) hlt (by rw [hci]; exact hye))]
        · have hlt' : ¬ (i : Int) < (u.classes.length : Int) := by omega
          have : (u.classes.any fun c => c.binds.any (badBind u)) = false := any_no fun j hj => hall j hj (by omega)
          rw [this] at hres
          simp -implicitDefEqProofs only [g1, g45, g46, g47, hlt', hres, Bool.false_eq_true, go_sem]
          exact s1.trans s4
    · have hres : methodsP u = firstBad u.methods.length (badMeth u) := by simp only [methodsP, hcl, hfb, Bool.false_eq_true, if_false, ne_eq, not_false_eq_true, if_true]
      simp -implicitDefEqProofs only [g2, hres, go_sem]
      exact s1.trans s3
  · have hres : methodsP u = 14 := by simp only [methodsP, hcl, if_true]
    simp -implicitDefEqProofs only [g2, hres, go_sem]
    exact s1.trans s2
set_option maxHeartbeats 4000000
def valP (u : UUnit) (v : Pr2) : Bool :=
  if v.1 = 0 ∨ v.1 = 1 ∨ v.1 = 2 then decide (v.2 = 0)
  else if v.1 = 3 then decide (-1073741824 ≤ v.2 ∧ v.2 ≤ 1073741823)
  else if v.1 = 4 then decide (0 ≤ v.2 ∧ v.2 < u.objects.length)
  else false
theorem c_value {H : AHeap} {u : UUnit} {cu : List AV} (h : UnE H u cu) (v : Pr2) : CW MN 95 [.agg (prC v), .agg cu] H fun w H' => w = .bool (valP u v) ∧ Sm H H' := by
  refine CW_of (fn := af95) rfl ?_
  dsimp only [af95, qm, q, qG, qn, qi, qb, qB, qk, qc, qo, qg, qv, qr]
  have s1 := Chg.newRow H (prC v)
  have r1 := Rd.newRow H (prC v)
  generalize eH1 : H.newRow (prC v) = H1 at r1 s1
  obtain ⟨v1, v2, v3, v4, bu, rfl⟩ := BoxU.of (MonoE.un _ _ _ _ h s1)
  have s2 := Chg.newRow H1 [v1, v2, v3, v4, .int .i64 u.main]
  generalize eH2 : H1.newRow [v1, v2, v3, v4, .int .i64 u.main] = H2 at bu s2
  have r2 := r1.keep (H' := H2) s2.1 (s2.gt r1.1)
  obtain ⟨a4, z4, c4, rfl, -⟩ := bu.objects.shape
  have l0 := r2.one (j := 0) rfl
  have l1 := r2.one (j := 1) rfl
  rw [Nat.zero_add] at l0 l1
  have n3 := bu.l3
  have s12 := s1.trans s2
  obtain ⟨k, n⟩ := v
  simp only [iv] at l0 l1
  by_cases k0 : k = 0
  · subst k0
    simp -implicitDefEqProofs only [eH1, eH2, l0, l1, Int.reduceBEq, Bool.false_eq_true, go_sem]
    exact ⟨by simp [valP]; rfl, s12⟩
  · have k0' : (k == 0) = false := by simpa using k0
    by_cases k1 : k = 1
    · subst k1
      simp -implicitDefEqProofs only [eH1, eH2, l0, l1, Int.reduceBEq, Bool.false_eq_true, go_sem]
      exact ⟨by simp [valP]; rfl, s12⟩
    · have k1' : (k == 1) = false := by simpa using k1
      by_cases k2 : k = 2
      · subst k2
        simp -implicitDefEqProofs only [eH1, eH2, l0, l1, Int.reduceBEq, Bool.false_eq_true, go_sem]
        exact ⟨by simp [valP]; rfl, s12⟩
      · have k2' : (k == 2) = false := by simpa using k2
        by_cases k3 : k = 3
        · subst k3
          by_cases h1 : -1073741824 ≤ n
          · simp -implicitDefEqProofs only [eH1, eH2, l0, l1, h1, Int.reduceBEq, Bool.false_eq_true, go_sem]
            exact ⟨by simp [valP, h1], s12⟩
          · simp -implicitDefEqProofs only [eH1, eH2, l0, l1, h1, Int.reduceBEq, Bool.false_eq_true, go_sem]
            exact ⟨by simp [valP, h1], s12⟩
        · have k3' : (k == 3) = false := by simpa using k3
          by_cases k4 : k = 4
          · subst k4
            by_cases h1 : 0 ≤ n
            · simp -implicitDefEqProofs only [eH1, eH2, l0, l1, n3, h1, Int.reduceBEq, Bool.false_eq_true, go_sem]
              exact ⟨by simp [valP, h1], s12⟩
            · simp -implicitDefEqProofs only [eH1, eH2, l0, l1, n3, h1, Int.reduceBEq, Bool.false_eq_true, go_sem]
              exact ⟨by simp [valP, h1], s12⟩
          · have k4' : (k == 4) = false := by simpa using k4
            simp -implicitDefEqProofs only [eH1, eH2, l0, l1, k0', k1', k2', k3', k4', Bool.false_eq_true, go_sem]
            exact ⟨by simp [valP, k0, k1, k2, k3, k4], s12⟩
theorem c_object1 {H : AHeap} {u : UUnit} {b : Nat} {v1 v2 v3 v4 : AV} (bu : BoxU H u b v1 v2 v3 v4) (v : Pr2) : CW MN 94 [.agg (prC v), .ptr (some (b, 0))] H fun w H' => w = .bool (!valP u v) ∧ Sm H H' := by
  refine CW_of (fn := af94) rfl ?_
  dsimp only [af94, qm, q, qG, qn, qi, qb, qB, qk, qc, qo, qg, qv, qr]
  have s1 := Chg.newRow H (prC v)
  have l1 := (Rd.newRow H (prC v)).load (n := 2) rfl
  have bu1 := bu.sm s1
  generalize eH1 : H.newRow (prC v) = H1 at l1 s1 bu1
  have la := bu1.all
  simp -implicitDefEqProofs only [eH1, l1, la, go_sem]
  refine CW.mono (c_value bu1.un v) ?_
  rintro w H2 ⟨rfl, s2⟩
  simp -implicitDefEqProofs only [go_sem]
  exact s1.trans s2
def objP (u : UUnit) (o : UObj) : Bool := decide (1 ≤ o.cls ∧ o.cls < u.classes.length ∧ o.fields.length ≤ 62 ∧ (1 < o.cls → (o.fields.length : Int) = (clAt u.classes o.cls).fields)) && o.fields.all (valP u)
structure BoxO (H : AHeap) (o : UObj) (b : Nat) (vf : AV) : Prop where
  lt : b < H.next
  all : loadA H b 0 2 = some [.int .i64 o.cls, vf]
  l0 : loadA H b 0 1 = some [.int .i64 o.cls]
  l1 : loadA H b 1 1 = some [vf]
  fields : SlE PrE 2 H o.fields [vf]
  ob : ObE H o [.int .i64 o.cls, vf]
theorem BoxO.sm {H H' : AHeap} {o : UObj} {b : Nat} {vf : AV} (h : BoxO H o b vf) (s : Sm H H') : BoxO H' o b vf :=
  ⟨Nat.lt_of_lt_of_le h.lt s.1, by rw [s.ld h.lt, h.all], by rw [s.ld h.lt, h.l0], by rw [s.ld h.lt, h.l1], MonoE.enc.sl _ _ _ _ h.fields s, MonoE.ob _ _ _ _ h.ob s⟩
theorem BoxO.of {H : AHeap} {o : UObj} {cs : List AV} (h : ObE H o cs) : ∃ vf, BoxO (H.newRow cs) o H.next vf ∧ cs = [.int .i64 o.cls, vf] := by
  obtain ⟨vf, rfl, h1, h2⟩ := h
  have s := Chg.newRow H [iv o.cls, vf]
  have r := Rd.newRow H [iv o.cls, vf]
  have r0 := r.one (j := 0) rfl
  have r1 := r.one (j := 1) rfl
  rw [Nat.zero_add] at r0 r1
  exact ⟨vf, ⟨r.1, r.load rfl, r0, r1, MonoE.enc.sl _ _ _ _ h2 s, vf, rfl, h1, MonoE.enc.sl _ _ _ _ h2 s⟩, rfl⟩
theorem any_not_all {α : Type} {p : α → Bool} {l : List α} : (l.any fun x => !p x) = !l.all p := by
  induction l with
  | nil => rfl
  | cons a l ih => simp [ih]
theorem c_object {H : AHeap} {u : UUnit} {cu : List AV} (hu : UnE H u cu) {o : UObj} {co : List AV} (h : ObE H o co) : CW MN 61 [.agg co, .agg cu] H fun w H' => w = .bool (objP u o) ∧ Sm H H' := by
  refine CW_of (fn := af61) rfl ?_
  dsimp only [af61, qm, q, qG, qn, qi, qb, qB, qk, qc, qo, qg, qv, qr]
  obtain ⟨vf, bo, rfl⟩ := BoxO.of h
  have s1 := Chg.newRow H [.int .i64 o.cls, vf]
  have hn1 : (H.newRow [.int .i64 o.cls, vf]).next = H.next + 1 := rfl
  generalize eH1 : H.newRow [.int .i64 o.cls, vf] = H1 at bo s1 hn1
  obtain ⟨v1, v2, v3, v4, bu, rfl⟩ := BoxU.of (MonoE.un _ _ _ _ hu s1)
  have s2 := Chg.newRow H1 [v1, v2, v3, v4, .int .i64 u.main]
  generalize eH2 : H1.newRow [v1, v2, v3, v4, .int .i64 u.main] = H2 at bu s2
  have bo := bo.sm s2
  obtain ⟨a2, z2, c2, rfl, -⟩ := bu.classes.shape
  obtain ⟨af, zf, cf, rfl, -⟩ := bo.fields.shape
  have l0 := bo.l0; have l1 := bo.l1; have n1 := bu.l1
  have s12 := s1.trans s2
  by_cases h1 : o.cls < 1
  · have e : objP u o = false := by simp [objP]; omega
    simp -implicitDefEqProofs only [eH1, eH2, l0, l1, n1, h1, e, go_sem]
    exact s12
  · by_cases h2 : (u.classes.length : Int) ≤ o.cls
    · have e : objP u o = false := by simp [objP]; omega
      simp -implicitDefEqProofs only [eH1, eH2, l0, l1, n1, h1, h2, e, Bool.false_eq_true, go_sem]
      exact s12
    · by_cases h3 : (62 : Int) < (o.fields.length : Int)
      · have e : objP u o = false := by simp [objP]; omega
        simp -implicitDefEqProofs only [eH1, eH2, l0, l1, n1, h1, h2, h3, e, Bool.false_eq_true, go_sem]
        exact s12
      · obtain ⟨k, hk⟩ : ∃ k : Nat, o.cls = k := ⟨o.cls.toNat, by omega⟩
        have kl : k < u.classes.length := by omega
        have k0 : (0 : Int) ≤ (k : Int) := by omega
        have kl' : (k : Int) < (u.classes.length : Int) := by omega
        obtain ⟨x, p, vb, rfl, rfl, -, -, -, lf, -⟩ := ClE.at bu.classes kl
        simp only [iv] at lf
        have eck : clAt u.classes (k : Int) = u.classes[k] := clAt_nat kl
        have fin : ∀ {b : Bool}, b = objP u o → (∀ G, Sm H2 G → AV.bool b = AV.bool (objP u o) ∧ Sm H G) := fun e G hG => ⟨by rw [e], s12.trans hG⟩
        have cont : (1 < o.cls → (o.fields.length : Int) = (clAt u.classes o.cls).fields) → CW MN 93 [.slice af zf o.fields.length cf, .func (.func 94) [] [.ptr (some (H1.next, 0))]] H2 fun w H' => w = .bool (!objP u o) ∧ Sm H2 H' := fun hc => by
          refine (c_contF (f := 114) (f' := 93) (s := 2) rfl rfl MonoE.enc bo.fields (p := fun v => !valP u v) ?_).mono ?_
          · rintro j hj r G s ⟨rfl, -⟩ -
            exact c_object1 (bu.sm s) _
          · rintro w G ⟨rfl, s⟩
            refine ⟨?_, s⟩
            have e : objP u o = o.fields.all (valP u) := by
              have : 1 ≤ o.cls ∧ o.cls < u.classes.length ∧ o.fields.length ≤ 62 ∧ (1 < o.cls → (o.fields.length : Int) = (clAt u.classes o.cls).fields) := ⟨by omega, by omega, by omega, hc⟩
              rw [objP, decide_eq_true this, Bool.true_and]
            rw [e, any_not_all]
        rw [hk] at l0 h1 h2
        by_cases h4 : (1 : Int) < (k : Int)
        · by_cases h5 : (o.fields.length : Int) = u.classes[k].fields
          · have h5' : ((o.fields.length : Int) != u.classes[k].fields) = false := by simp [h5]
            simp -implicitDefEqProofs only [eH1, eH2, l0, l1, n1, h1, h2, h3, h4, k0, kl', lf, h5', Bool.false_eq_true, go_sem]
            refine CW.mono (cont fun _ => by rw [hk, eck]; exact h5) ?_
            rintro w G ⟨rfl, s⟩
            simp -implicitDefEqProofs only [Bool.not_not, go_sem]
            exact s12.trans s
          · have h5' : ((o.fields.length : Int) != u.classes[k].fields) = true := by simpa using h5
            have e : objP u o = false := by
              have : ¬ (1 ≤ o.cls ∧ o.cls < u.classes.length ∧ o.fields.length ≤ 62 ∧ (1 < o.cls → (o.fields.length : Int) = (clAt u.classes o.cls).fields)) := by
                rintro ⟨-, -, -, hc⟩
                have := hc (by omega)
                rw [hk, eck] at this
                exact h5 this
              simp only [objP, this, decide_false, Bool.false_and]
            simp -implicitDefEqProofs only [eH1, eH2, l0, l1, n1, h1, h2, h3, h4, k0, kl', lf, h5', e, Bool.false_eq_true, go_sem]
            exact s12
        · simp -implicitDefEqProofs only [eH1, eH2, l0, l1, n1, h1, h2, h3, h4, Bool.false_eq_true, go_sem]
          refine CW.mono (cont fun hc => by omega) ?_
          rintro w G ⟨rfl, s⟩
          simp -implicitDefEqProofs only [Bool.not_not, go_sem]
          exact s12.trans s
theorem c_unitRight1 {H : AHeap} {u : UUnit} {b : Nat} {v1 v2 v3 v4 : AV} (bu : BoxU H u b v1 v2 v3 v4) {o : UObj} {co : List AV} (h : ObE H o co) : CW MN 60 [.agg co, .ptr (some (b, 0))] H fun w H' => w = .bool (!objP u o) ∧ Sm H H' := by
  refine CW_of (fn := af60) rfl ?_
  dsimp only [af60, qm, q, qG, qn, qi, qb, qB, qk, qc, qo, qg, qv, qr]
  obtain ⟨vf, bo, rfl⟩ := BoxO.of h
  have s1 := Chg.newRow H [.int .i64 o.cls, vf]
  have bu1 := bu.sm s1
  generalize eH1 : H.newRow [.int .i64 o.cls, vf] = H1 at bo s1 bu1
  have la := bu1.all
  have lo := bo.all
  simp -implicitDefEqProofs only [eH1, lo, la, go_sem]
  refine CW.mono (c_object bu1.un bo.ob) ?_
  rintro w H2 ⟨rfl, s2⟩
  simp -implicitDefEqProofs only [go_sem]
  exact s1.trans s2
def sizesP (u : UUnit) : Bool := decide (u.names.length ≤ 48 ∧ 1 ≤ u.methods.length ∧ u.methods.length ≤ 32 ∧ 1 ≤ u.objects.length ∧ u.objects.length ≤ 40)
def mainP (u : UUnit) : Bool := decide (0 ≤ u.main ∧ u.main < u.methods.length) && decide ((mAt u u.main.toNat).args = 0)
def unitP (u : UUnit) : Int :=
  if sizesP u = false then 3
  else if namesP u.names = false then 13
  else if shapeP u.classes u.names.length u.methods.length ≠ 0 then shapeP u.classes u.names.length u.methods.length
  else if methodsP u ≠ 0 then methodsP u
  else if u.objects.all (objP u) = false then 16
  else if mainP u = false then 15 else 0
theorem least_bad {n : Nat} {f : Nat → Int} (h : ¬ ∀ j, j < n → f j = 0) : ∃ i, i < n ∧ f i ≠ 0 ∧ ∀ j, j < i → f j = 0 := by
  have h1 : ∃ i, i < n ∧ f i ≠ 0 := Classical.byContradiction fun hc => h fun j hj => Classical.byContradiction fun hj' => hc ⟨j, hj, hj'⟩
  obtain ⟨i, hi, hb⟩ := h1
  induction i using Nat.strongRecOn with
  | _ i ih =>
    by_cases hp : ∃ j, j < i ∧ f j ≠ 0
    · obtain ⟨j, hj, hb'⟩ := hp
      exact ih j hj (by omega) hb'
    · exact ⟨i, hi, hb, fun j hj => Classical.byContradiction fun hc => hp ⟨j, hj, hc⟩⟩
theorem firstBad_zero {n : Nat} {f : Nat → Int} (h : firstBad n f = 0) : ∀ j, j < n → f j = 0 := by
  by_cases hz : ∀ j, j < n → f j = 0
  · exact hz
  · obtain ⟨k, hk, hkb, hkl⟩ := least_bad hz
    rw [firstBad_at hkl hk hkb] at h
    exact absurd h hkb
theorem shapeP_all {l : List UClass} {n m : Int} (h : shapeP l n m = 0) : (¬ (l.length < 2 ∨ 12 < l.length)) ∧ ∀ i, i < l.length → classAt l n m i = 0 := by
  unfold shapeP at h
  split at h
  · cases h
  · rename_i h1
    split at h
    · cases h
    · exact ⟨h1, firstBad_zero h⟩
theorem classAt_zero {l : List UClass} {n m : Int} {i : Nat} (hi : i < l.length) (h : classAt l n m i = 0) : superP l i = true ∧ bindsP l[i].binds n m = true := by
  rw [classAt_nat hi] at h
  split at h
  · cases h
  · split at h
    · cases h
    · rename_i h2
      split at h
      · cases h
      · rename_i h3
        exact ⟨by simpa using h2, by simpa using h3⟩
theorem shapeP_binds {u : UUnit} (h : shapeP u.classes u.names.length u.methods.length = 0) : bindsOk u := by
  intro c hc b hb
  obtain ⟨i, hi, rfl⟩ := List.getElem_of_mem hc
  obtain ⟨-, h2⟩ := classAt_zero hi ((shapeP_all h).2 i hi)
  obtain ⟨j, hj, rfl⟩ := List.getElem_of_mem hb
  rw [bindsP, Bool.and_eq_true] at h2
  have h3 := List.all_eq_true.1 h2.1 j (List.mem_range.2 hj)
  rw [bindAt_nat hj, Bool.and_eq_true] at h3
  have h4 := h3.1
  simp only [okB, Bool.and_eq_true, decide_eq_true_eq] at h4
  omega
theorem c_unitRight {H : AHeap} {u : UUnit} {cu : List AV} (hu : UnE H u cu) : CW MN 30 [.agg cu] H fun w H' => w = .int .i64 (unitP u) ∧ Sm H H' := by
  refine CW_of (fn := af30) rfl ?_
  dsimp only [af30, qm, q, qG, qn, qi, qb, qB, qk, qc, qo, qg, qv, qr]
  obtain ⟨v1, v2, v3, v4, bu, rfl⟩ := BoxU.of hu
  have s1 := Chg.newRow H [v1, v2, v3, v4, .int .i64 u.main]
  generalize eH1 : H.newRow [v1, v2, v3, v4, .int .i64 u.main] = H1 at bu s1
  obtain ⟨a1, z1, c1, rfl, -⟩ := bu.names.shape
  obtain ⟨a2, z2, c2, rfl, -⟩ := bu.classes.shape
  obtain ⟨a3, z3, c3, rfl, -⟩ := bu.methods.shape
  obtain ⟨a4, z4, c4, rfl, -⟩ := bu.objects.shape
  have l0 := bu.l0; have l1 := bu.l1; have l2 := bu.l2; have l3 := bu.l3
  cases hsz : sizesP u with
  | false =>
    have hr : unitP u = 3 := by simp [unitP, hsz]
    have hs' : ¬ (u.names.length ≤ 48 ∧ 1 ≤ u.methods.length ∧ u.methods.length ≤ 32 ∧ 1 ≤ u.objects.length ∧ u.objects.length ≤ 40) := by simpa [sizesP] using hsz
    by_cases d1 : (48 : Int) < (u.names.length : Int)
    · simp -implicitDefEqProofs only [eH1, l0, d1, hr, go_sem]
      exact s1
    · by_cases d2 : (u.methods.length : Int) < 1
      · simp -implicitDefEqProofs only [eH1, l0, l2, d1, d2, hr, Bool.false_eq_true, go_sem]
        exact s1
      · by_cases d3 : (32 : Int) < (u.methods.length : Int)
        · simp -implicitDefEqProofs only [eH1, l0, l2, d1, d2, d3, hr, Bool.false_eq_true, go_sem]
          exact s1
        · by_cases d4 : (u.objects.length : Int) < 1
          · simp -implicitDefEqProofs only [eH1, l0, l2, l3, d1, d2, d3, d4, hr, Bool.false_eq_true, go_sem]
            exact s1
          · have d5 : (40 : Int) < (u.objects.length : Int) := by omega
            simp -implicitDefEqProofs only [eH1, l0, l2, l3, d1, d2, d3, d4, d5, hr, Bool.false_eq_true, go_sem]
            exact s1
  | true =>
    have hs' : u.names.length ≤ 48 ∧ 1 ≤ u.methods.length ∧ u.methods.length ≤ 32 ∧ 1 ≤ u.objects.length ∧ u.objects.length ≤ 40 := by simpa [sizesP] using hsz
    have d1 : ¬ (48 : Int) < (u.names.length : Int) := by omega
    have d2 : ¬ (u.methods.length : Int) < 1 := by omega
    have d3 : ¬ (32 : Int) < (u.methods.length : Int) := by omega
    have d4 : ¬ (u.objects.length : Int) < 1 := by omega
    have d5 : ¬ (40 : Int) < (u.objects.length : Int) := by omega
    simp -implicitDefEqProofs only [eH1, l0, l2, l3, d1, d2, d3, d4, d5, Bool.false_eq_true, go_sem]
    refine CW.mono (c_names bu.names (by omega)) ?_
    rintro w H2 ⟨rfl, s2⟩
    have s12 := s1.trans s2
    cases hnm : namesP u.names with
    | false =>
      have hr : unitP u = 13 := by simp [unitP, hsz, hnm]
      have e13 : ((13 : Int) != 0) = true := rfl
      simp -implicitDefEqProofs only [e13, hr, Bool.false_eq_true, go_sem]
      exact s12
    | true =>
      have bu := bu.sm s2
      have l0 := bu.l0; have l1 := bu.l1; have l2 := bu.l2
      simp -implicitDefEqProofs only [l0, l1, l2, bne_self_eq_false, Bool.false_eq_true, go_sem]
      refine CW.mono (c_shapeRight bu.classes (u.names.length : Int) (u.methods.length : Int)) ?_
      rintro w H3 ⟨rfl, s3⟩
      have s13 := s12.trans s3
      by_cases hsh : shapeP u.classes u.names.length u.methods.length = 0
      · have hsh' : (shapeP u.classes u.names.length u.methods.length != 0) = false := by simpa using hsh
        have bu := bu.sm s3
        have la := bu.all
        simp -implicitDefEqProofs only [hsh', la, Bool.false_eq_true, go_sem]
        refine CW.mono (c_methods bu.un (shapeP_binds hsh)) ?_
        rintro w H4 ⟨rfl, s4⟩
        have s14 := s13.trans s4
        by_cases hme : methodsP u = 0
        · have hme' : (methodsP u != 0) = false := by simpa using hme
          have bu := bu.sm s4
          have l3 := bu.l3
          simp -implicitDefEqProofs only [hme', l3, Bool.false_eq_true, go_sem]
          refine CW.mono (c_contF (f := 92) (f' := 59) (s := 2) rfl rfl MonoE.ob bu.objects (p := fun o => !objP u o) ?_) ?_
          · rintro j hj r G s ho -
            exact c_unitRight1 (bu.sm s) ho
          rintro w H5 ⟨rfl, s5⟩
          have s15 := s14.trans s5
          rw [any_not_all]
          cases hob : u.objects.all (objP u) with
          | false =>
            have hr : unitP u = 16 := by simp only [unitP, hsz, hnm, hsh, hme, hob, Bool.true_eq_false, if_false, ne_eq, not_true_eq_false, if_true]
            simp -implicitDefEqProofs only [hr, Bool.not_false, go_sem]
            exact s15
          | true =>
            have hres : unitP u = if mainP u = false then 15 else 0 := by simp only [unitP, hsz, hnm, hsh, hme, hob, Bool.true_eq_false, if_false, ne_eq, not_true_eq_false]
            have bu := bu.sm s5
            have l4 := bu.l4; have l2 := bu.l2
            by_cases m0 : u.main < 0
            · have hm : mainP u = false := by simp [mainP]; omega
              rw [hm] at hres
              simp -implicitDefEqProofs only [l4, m0, hres, Bool.not_true, Bool.false_eq_true, go_sem]
              exact s15
            · by_cases m1 : (u.methods.length : Int) ≤ u.main
              · have hm : mainP u = false := by simp [mainP]; omega
                rw [hm] at hres
                simp -implicitDefEqProofs only [l4, l2, m0, m1, hres, Bool.not_true, Bool.false_eq_true, go_sem]
                exact s15
              · obtain ⟨k, hk⟩ : ∃ k : Nat, u.main = k := ⟨u.main.toNat, by omega⟩
                have kl : k < u.methods.length := by omega
                have k0 : (0 : Int) ≤ (k : Int) := by omega
                have kl' : (k : Int) < (u.methods.length : Int) := by omega
                obtain ⟨xm, om, rm, rfl, rfl, -, -, ⟨wl, wc, rfl, -⟩, rdm⟩ := bu.methods.at kl
                have lda := rdm.one (j := 0) rfl
                rw [Nat.add_zero] at lda
                simp only [iv] at lda
                have hm : mainP u = decide (u.methods[k].args = 0) := by
                  have : 0 ≤ u.main ∧ u.main < u.methods.length := by omega
                  rw [mainP, decide_eq_true this, Bool.true_and, hk, Int.toNat_natCast, mAt_nat kl]
                rw [hm] at hres
                rw [hk] at l4 m0 m1
                by_cases ha : u.methods[k].args = 0
                · have ha' : (u.methods[k].args != 0) = false := by simpa using ha
                  rw [decide_eq_true ha] at hres
                  simp -implicitDefEqProofs only [l4, l2, m0, m1, k0, kl', lda, ha', hres, Bool.not_true, Bool.true_eq_false, Bool.false_eq_true, go_sem]
                  exact s15
                · have ha' : (u.methods[k].args != 0) = true := by simpa using ha
                  rw [decide_eq_false ha] at hres
                  simp -implicitDefEqProofs only [l4, l2, m0, m1, k0, kl', lda, ha', hres, Bool.not_true, Bool.false_eq_true, go_sem]
                  exact s15
        · have hme' : (methodsP u != 0) = true := by simpa using hme
          have hr : unitP u = methodsP u := by simp only [unitP, hsz, hnm, hsh, hme, Bool.true_eq_false, if_false, ne_eq, not_true_eq_false, not_false_eq_true, if_true]
          simp -implicitDefEqProofs only [hme', hr, go_sem]
          exact s14
      · have hsh' : (shapeP u.classes u.names.length u.methods.length != 0) = true := by simpa using hsh
        have hr : unitP u = shapeP u.classes u.names.length u.methods.length := by simp only [unitP, hsz, hnm, hsh, Bool.true_eq_false, if_false, ne_eq, not_false_eq_true, if_true]
        simp -implicitDefEqProofs only [hsh', hr, go_sem]
        exact s13
set_option maxHeartbeats 4000000
set_option maxHeartbeats 4000000
set_option maxHeartbeats 4000000
theorem word_len {s : List Nat} (h : rightP s = true) : s.length ≤ 16 := by
  unfold rightP at h
  rw [Bool.or_eq_true] at h
  rcases h with h | h
  · simp only [ofSignsP, Bool.and_eq_true, decide_eq_true_eq] at h
    omega
  · simp only [wordP, Bool.and_eq_true, decide_eq_true_eq] at h
    omega
theorem unitP_zero {u : UUnit} (h : unitP u = 0) : sizesP u = true ∧ namesP u.names = true ∧ shapeP u.classes u.names.length u.methods.length = 0 ∧ methodsP u = 0 ∧ u.objects.all (objP u) = true ∧ mainP u = true := by
  unfold unitP at h
  split at h
  · cases h
  split at h
  · cases h
  split at h
  · rename_i h1; exact absurd h h1
  split at h
  · rename_i h1; exact absurd h h1
  split at h
  · cases h
  split at h
  · cases h
  rename_i h1 h2 h3 h4 h5 h6
  exact ⟨by simpa using h1, by simpa using h2, by simpa using h3, by simpa using h4, by simpa using h5, by simpa using h6⟩
theorem fitU_of {u : UUnit} (h : unitP u = 0) : FitU u := by
  obtain ⟨h1, h2, h3, h4, h5, h6⟩ := unitP_zero h
  simp only [sizesP, decide_eq_true_eq] at h1
  obtain ⟨c1, c2⟩ := shapeP_all h3
  have hb := shapeP_binds h3
  have hm : ∀ m, m ∈ u.methods → methodP u m = 0 := fun m hm => by
    unfold methodsP at h4
    split at h4
    · cases h4
    split at h4
    · rename_i h7; exact absurd h4 h7
    rename_i h7
    obtain ⟨i, hi, rfl⟩ := List.getElem_of_mem hm
    have := firstBad_zero (by simpa using h7) i hi
    unfold badMeth at this
    have e : mAt u i = u.methods[i] := by unfold mAt; rw [List.getD_eq_getElem?_getD, List.getElem?_eq_getElem hi]; rfl
    rwa [e] at this
  refine ⟨⟨h1.1, fun s hs => ?_⟩, ⟨by omega, fun c hc => ?_⟩, ⟨h1.2.2.1, fun m hm' => ?_⟩, ⟨h1.2.2.2.2, fun o ho => ?_⟩, ?_⟩
  · obtain ⟨i, hi, rfl⟩ := List.getElem_of_mem hs
    have := List.all_eq_true.1 h2 i (List.mem_range.2 hi)
    rw [nameAt_nat hi, Bool.and_eq_true] at this
    exact word_len this.1
  · have hb' := hb c hc
    obtain ⟨i, hi, rfl⟩ := List.getElem_of_mem hc
    have h7 := c2 i hi
    obtain ⟨s1, s2⟩ := classAt_zero hi h7
    rw [classAt_nat hi] at h7
    split at h7
    · cases h7
    rename_i h8
    have hn : u.classes[i].name.length ≤ 16 := by
      apply Classical.byContradiction
      intro hc
      refine h8 ?_
      rw [Bool.or_eq_true, Bool.or_eq_true]
      exact .inl (.inr (decide_eq_true (by omega)))
    unfold superP at s1
    rw [Bool.and_eq_true, clAt_nat hi] at s1
    have s3 := of_decide_eq_true s1.1
    unfold bindsP at s2
    rw [Bool.and_eq_true] at s2
    have s4 := of_decide_eq_true s2.2
    exact ⟨hn, ⟨by omega, by omega⟩, ⟨by omega, by omega⟩, s4, fun b hb => by
      obtain ⟨b1, b2, b3, b4⟩ := hb' b hb
      exact ⟨⟨by omega, by omega⟩, by omega, by omega⟩⟩
  · have h7 := hm m hm'
    unfold methodP at h7
    split at h7
    · cases h7
    rename_i h8
    split at h7
    · rename_i h9
      have h8 : shortP m = true := by simpa using h8
      simp only [shortP, decide_eq_true_eq] at h8
      rw [Bool.and_eq_true, Bool.and_eq_true] at h9
      refine ⟨⟨by omega, by omega⟩, ⟨by omega, by omega⟩, ⟨by omega, fun v hv => ?_⟩, by omega⟩
      have h10 := List.all_eq_true.1 h9.1.2 v hv
      unfold litP at h10
      split at h10
      · have := of_decide_eq_true h10
        exact ⟨⟨by omega, by omega⟩, by omega, by omega⟩
      split at h10
      · have := of_decide_eq_true h10
        exact ⟨⟨by omega, by omega⟩, by omega, by omega⟩
      split at h10
      · have := of_decide_eq_true h10
        exact ⟨⟨by omega, by omega⟩, by omega, by omega⟩
      split at h10
      · have := of_decide_eq_true h10
        exact ⟨⟨by omega, by omega⟩, by omega, by omega⟩
      · cases h10
    · cases h7
  · have h7 := List.all_eq_true.1 h5 o ho
    unfold objP at h7
    rw [Bool.and_eq_true] at h7
    have h8 := of_decide_eq_true h7.1
    refine ⟨⟨by omega, by omega⟩, h8.2.2.1, fun v hv => ?_⟩
    have h10 := List.all_eq_true.1 h7.2 v hv
    unfold valP at h10
    split at h10
    · have := of_decide_eq_true h10
      exact ⟨⟨by omega, by omega⟩, by omega, by omega⟩
    split at h10
    · have := of_decide_eq_true h10
      exact ⟨⟨by omega, by omega⟩, by omega, by omega⟩
    split at h10
    · have := of_decide_eq_true h10
      exact ⟨⟨by omega, by omega⟩, by omega, by omega⟩
    · cases h10
  · unfold mainP at h6
    rw [Bool.and_eq_true] at h6
    have := of_decide_eq_true h6.1
    exact ⟨by omega, by omega⟩
end Go.Proofs.YtojeldemfccilaaGreatDoor.AA
