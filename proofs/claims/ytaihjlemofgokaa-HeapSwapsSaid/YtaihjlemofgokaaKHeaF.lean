/- The law. -/
import Derived.Test.YtaihjlemofgokaaKHeaE
set_option linter.unusedSimpArgs false
set_option linter.unusedVariables false
namespace Go.Proofs.Ytaihjlemofgokaa.AA
open Go Go.RowKit
attribute [local go_sem ↓] exA_lookup stepA_lookup exA_mapEnt exA_entSt exA_delete exA_mapUpd WP_seq WP_skip WP_region WP_dregion WP_cond WP_block WP_exit WP_ret OW_nil OW_cons DW_nil DW_cons XW_call reduceIte OW_guard
attribute [local go_sem] LkA_some EvA_some entL_some updM_some at0 at1 at2 XW exA KO_eq OptK_some EvK_some GW2_true GW2_false KS_normal KS_ret KS_exit KB_normal KB_ret KB_exit CP2_bool RP_ret RP_normal putA_some putA_none ev_t ev_c evs evo wantA initA resA Tr.get_set vl chkOk cond_true cond_false Nat.add_zero Nat.mul_one Nat.one_mul Nat.zero_add Nat.zero_mul aggOf pInt binA unA intA beq_true beq_false Bool.not_true Bool.not_false Bool.not_eq_true and_self and_true true_and reduceIte Nat.reduceEqDiff Nat.succ_ne_self Nat.reduceAdd Nat.reduceMul Nat.reduceSub Nat.reduceBEq Nat.reduceLT Nat.reduceLeDiff Int.cast_ofNat_Int Int.reduceToNat Int.reduceLT Int.reduceLE Int.reduceGE Int.reduceGT Int.reduceEq Int.reduceNe Int.reduceAdd Int.reduceSub Int.reduceNeg decide_true decide_false Int.toNat_natCast reduceCtorEq List.nil_append List.cons_append AV.boxy AV.cells List.length_cons List.length_nil Nat.beq_refl AOp.cl KDW_0 KDW_1 KDW_2 OWskip_eq fillA setAt DChk DAt stepA ble_dec beq_dec Bool.and_self Bool.and_true Bool.true_and Bool.and_false Bool.false_and List.take_succ_cons List.take_zero List.drop_succ_cons List.drop_zero List.take_nil List.drop_nil List.append_nil eqAV eqAVL BEq.rfl sameS Option.map Option.isNone wrap64 gt_iff_lt ge_iff_le Int.lt_irrefl Int.le_refl
set_option maxRecDepth 100000
set_option maxHeartbeats 4000000
attribute [local irreducible] Tr.set
theorem empty_row (n : Nat → Nat) (hc : Cfg n) (s : Nat) : OneRow n (emptyM n) s 1 0 := by
  refine ⟨empty_ok hc, ?_, fun t k _ hk _ _ => ?_⟩
  · show (newMl (n s) 1).length = 0
    simp [newMl]
  · show newMl (n t) k = []
    unfold newMl; rw [if_neg (by omega)]
section
variable {H : AHeap}
end
set_option maxHeartbeats 4000000
theorem or1 (a : Int) : ∃ w : Nat, 0 < w ∧ w < 4294967296 ∧ binA .or (.sc .int) (.int .u32 a) (.int .u32 1) = some (.int .u32 (w : Int)) := by
  refine ⟨(BitVec.ofInt 32 a ||| BitVec.ofInt 32 1).toNat, ?_, (BitVec.ofInt 32 a ||| BitVec.ofInt 32 1).isLt, ?_⟩
  · rw [BitVec.toNat_or]
    have h1 : (BitVec.ofInt 32 1).toNat = 1 := by decide
    rw [h1]
    exact Nat.lt_of_lt_of_le (by omega) Nat.right_le_or
  · show some (AV.int .u32 (IntKind.u32.wrap (((BitVec.ofInt 32 a ||| BitVec.ofInt 32 1).toNat : Nat) : Int))) = _
    have := (BitVec.ofInt 32 a ||| BitVec.ofInt 32 1).isLt
    rw [wrap32 (by omega) (by omega)]
section
variable {h : HM}
theorem putM_ok {i k w : Int} {p : Pl} (hp : h.g i = some p) (hk : 0 ≤ k) (hk2 : k < (h.X p).2.length) (hw : w ≠ 0) : (putM h i k w).1 = true ∧ (putM h i k w).2.g = h.g ∧ (putM h i k w).2.X = fset h.X p ((h.X p).1, (h.X p).2.set k.toNat w) := by
  unfold putM
  rw [hp]
  dsimp only
  rw [if_pos ⟨hk, hk2, hw⟩]
  dsimp only
  refine ⟨rfl, ?_⟩
  split
  · obtain ⟨e1, e2⟩ := shadeM_g { h with X := fset h.X p ((h.X p).1, (h.X p).2.set k.toNat w) } w
    rw [e1, e2]; exact ⟨rfl, rfl⟩
  · exact ⟨rfl, rfl⟩
theorem swapM_ok {a b : Int} {p q : Pl} (hp : h.g a = some p) (hq : h.g b = some q) : (swapM h a b).1 = true ∧ (swapM h a b).2.g = swG h.g a b ∧ (swapM h a b).2.X = h.X := by
  unfold swapM
  rw [if_pos (by rw [hp, hq]; rfl)]
  dsimp only
  refine ⟨rfl, ?_⟩
  split
  · obtain ⟨e1, e2⟩ := shadeM_g (shadeM { h with g := swG h.g a b } (2 * a)) (2 * b)
    obtain ⟨e3, e4⟩ := shadeM_g { h with g := swG h.g a b } (2 * a)
    rw [e1, e2, e3, e4]; exact ⟨rfl, rfl⟩
  · exact ⟨rfl, rfl⟩
theorem swapM_no {a b : Int} (hb : h.g b = none) : (swapM h a b).1 = false := by
  unfold swapM
  rw [if_neg (by rw [hb]; simp)]
theorem obM_at {i : Int} {p : Pl} (hp : h.g i = some p) : obM h i = some (h.X p) := by unfold obM; rw [hp]; rfl
theorem getM_at {i : Int} {p : Pl} (hp : h.g i = some p) {k : Nat} {w : Int} (hw : (h.X p).2[k]? = some w) : getM h i k = some w := by
  unfold getM
  rw [obM_at hp]
  dsimp only
  rw [if_pos (by omega), Int.toNat_natCast, hw]
end
theorem OneRow.room {n : Nat → Nat} {h : HM} {s j : Nat} (o : OneRow n h s 1 j) (hs : s < 5) {t : Nat} (ht : t < 5) (hn : j < n t) : ∃ i l, h.M t 0 = i :: l := by
  have hl : 0 < (h.M t 0).length := by
    by_cases e : t = s
    · subst e
      have := o.free hs
      omega
    · have := (o.ok.mill t ht).full fun k hk hk4 => o.no t k ht hk hk4 (.inl e)
      omega
  cases hm : h.M t 0 with
  | nil => rw [hm] at hl; simp at hl
  | cons i l => exact ⟨i, l, rfl⟩
abbrev n4 : Nat → Nat := fun _ => 4
theorem n4_cfg : Cfg n4 := ⟨fun s _ => by show 4 ≤ 512; omega, by decide, by decide⟩
/-- Two objects, in a memory that is new. -/
theorem two_new {x y : Int} (x0 : 1 ≤ x) (x1 : x ≤ 61) (y0 : 1 ≤ y) (y1 : y ≤ 61) : ∃ P Q : Pl, P ≠ Q ∧ (allocM (emptyM n4) 7 x).1 = 4 ∧ (allocM (allocM (emptyM n4) 7 x).2 8 y).1 = 5 ∧
    (allocM (allocM (emptyM n4) 7 x).2 8 y).2.g = fset (fset (fun _ => none) 4 (some P)) 5 (some Q) ∧ (allocM (allocM (emptyM n4) 7 x).2 8 y).2.X P = (7, List.replicate x.toNat 2) ∧ (allocM (allocM (emptyM n4) 7 x).2 8 y).2.X Q = (8, List.replicate y.toNat 2) := by
  have szr : ∀ f : Int, 1 ≤ f → f ≤ 61 → 0 ≤ szP f := fun f h1 h2 => by
    unfold szP
    repeat' split
    all_goals omega
  have zx := szr x x0 x1
  have zy := szr y y0 y1
  obtain ⟨-, -, sx5, -⟩ := szP_nn zx
  obtain ⟨-, -, sy5, -⟩ := szP_nn zy
  have o0 := empty_row n4 n4_cfg (szP x).toNat
  obtain ⟨i, l, hi⟩ := o0.room (by omega) (t := (szP x).toNat) (by omega) (by show 0 < 4; omega)
  obtain ⟨a4, o1⟩ := OneRow.alloc (c := 7) zx (by omega) (by omega) o0 (by show 0 < 4; omega)
  obtain ⟨p, lp, ep⟩ := o0.ok.alloc_at (c := 7) (f := x) zx (by omega) (by omega) hi
  obtain ⟨j, l', hj⟩ := o1.room (by omega) (t := (szP y).toNat) (by omega) (by show 1 < 4; omega)
  obtain ⟨q, lq, eq⟩ := o1.ok.alloc_at (c := 8) (f := y) zy (by omega) (by omega) hj
  have p4 : p = 4 := by
    obtain ⟨h1, h2, h3, h4⟩ := lp
    by_cases e : 4 < p
    · exact absurd rfl (h4 4 (by omega) e)
    · omega
  subst p4
  rw [ep] at lq eq
  dsimp only at lq eq
  have q5 : q = 5 := by
    obtain ⟨h1, h2, h3, h4⟩ := lq
    by_cases e4 : q = 4
    · rw [e4, fset_same] at h3; cases h3
    by_cases e : 5 < q
    · refine absurd ?_ (h4 5 (by omega) e)
      rw [fset_ne (by omega)]; rfl
    · omega
  subst q5
  have ok2 := o1.ok.alloc 8 y
  rw [ep] at ok2 ⊢
  rw [eq] at ok2 ⊢
  have hne : (szP x, i) ≠ (szP y, j) := by
    intro e
    have u1 : fset (fset (emptyM n4).g 4 (some (szP x, i))) 5 (some (szP y, j)) 4 = some (szP x, i) := by rw [fset_ne (by omega), fset_same]
    have u2 : fset (fset (emptyM n4).g 4 (some (szP x, i))) 5 (some (szP y, j)) 5 = some (szP x, i) := by rw [fset_same, e]
    have := ok2.inj 4 5 (szP x, i) u1 u2
    omega
  refine ⟨(szP x, i), (szP y, j), hne, rfl, rfl, rfl, ?_, ?_⟩
  · show fset (fset (emptyM n4).X (szP x, i) (7, List.replicate x.toNat 2)) (szP y, j) (8, List.replicate y.toNat 2) (szP x, i) = _
    rw [fset_ne hne, fset_same]
  · show fset (fset (emptyM n4).X (szP x, i) (7, List.replicate x.toNat 2)) (szP y, j) (8, List.replicate y.toNat 2) (szP y, j) = _
    rw [fset_same]
section
variable {H : AHeap}
theorem c_HeapSwaps (a b v w : Int) : CW MN 6 [.int .i64 a, .int .i64 b, .int .i64 v, .int .i64 w] H fun u _ => u = .bool true := by
  refine CW_of (fn := af6) rfl ?_
  unfold af6
  have cfg : ([.int .i64 4, .int .i64 4, .int .i64 4, .int .i64 4, .int .i64 4, .int .i64 1] : List AV) = cfgC n4 1 := rfl
  simp -implicitDefEqProofs only [eqA, eqD, go_sem]
  rw [cfg]
  refine CW.mono (c_hNew n4_cfg (by omega) (by omega)) ?_
  rintro u H0 ⟨A, rfl, hr0, -, -⟩
  simp -implicitDefEqProofs only [Bool.false_eq_true, eqA, eqD, go_sem]
  refine CW.mono (c_withinN a 0 60 H0 (by omega) (by omega) (by omega)) ?_
  rintro u H' ⟨⟨x', rfl, x0, x1⟩, rfl⟩
  obtain ⟨x, hx⟩ : ∃ x, 1 + x' = x := ⟨_, rfl⟩
  have hwx : IntKind.i64.wrap (1 + x') = x := by rw [← hx]; exact wrap64 (by omega) (by omega)
  simp -implicitDefEqProofs only [hwx, eqA, eqD, go_sem]
  refine CW.mono (c_withinN b 0 60 H' (by omega) (by omega) (by omega)) ?_
  rintro u H'' ⟨⟨y', rfl, y0, y1⟩, rfl⟩
  obtain ⟨y, hy⟩ : ∃ y, 1 + y' = y := ⟨_, rfl⟩
  have hwy : IntKind.i64.wrap (1 + y') = y := by rw [← hy]; exact wrap64 (by omega) (by omega)
  obtain ⟨P, Q, hne, e1, e2, eg, eP, eQ⟩ := two_new (x := x) (y := y) (by omega) (by omega) (by omega) (by omega)
  simp -implicitDefEqProofs only [hwy, eqA, eqD, go_sem]
  refine CW.mono (c_Alloc hr0 (c := 7) (f := x) (by omega)) ?_
  rintro u H1 ⟨hv, hr1, -⟩
  rw [e1] at hv
  subst hv
  simp -implicitDefEqProofs only [eqA, eqD, go_sem]
  refine CW.mono (c_Alloc hr1 (c := 8) (f := y) (by omega)) ?_
  rintro u H2 ⟨hv, hr2, -⟩
  rw [e2] at hv
  subst hv
  generalize (allocM (allocM (emptyM n4) 7 x).2 8 y).2 = h2 at *
  have g4 : h2.g 4 = some P := by rw [eg, fset_ne (by omega), fset_same]
  have g5 : h2.g 5 = some Q := by rw [eg, fset_same]
  have g99 : h2.g 99 = none := by rw [eg, fset_ne (by omega), fset_ne (by omega)]
  obtain ⟨vw, v0, v1, vb⟩ := or1 (IntKind.u32.wrap v)
  obtain ⟨ww, w0, w1, wb⟩ := or1 (IntKind.u32.wrap w)
  have lx : (List.replicate x.toNat (2 : Int)).length = x.toNat := by simp
  have ly : (List.replicate y.toNat (2 : Int)).length = y.toNat := by simp
  obtain ⟨f1, f2, f3⟩ := putM_ok (h := h2) (i := 4) (k := 0) (w := (vw : Int)) g4 (by omega) (by rw [eP]; simp; omega) (by omega)
  simp -implicitDefEqProofs only [convA, ↓vb, eqA, eqD, go_sem]
  refine CW.mono (c_Put hr2 4 0 v1) ?_
  rintro u H3 ⟨hv, hr3, -⟩
  rw [f1] at hv
  subst hv
  rw [eP] at f3
  generalize (putM h2 4 0 (vw : Int)).2 = h3 at *
  have g53 : h3.g 5 = some Q := by rw [f2]; exact g5
  have xq3 : h3.X Q = (8, List.replicate y.toNat 2) := by rw [f3, fset_ne (Ne.symm hne)]; exact eQ
  obtain ⟨k1, k2, k3⟩ := putM_ok (h := h3) (i := 5) (k := 0) (w := (ww : Int)) g53 (by omega) (by rw [xq3]; simp; omega) (by omega)
  simp -implicitDefEqProofs only [convA, ↓vb, ↓wb, eqA, eqD, go_sem]
  refine CW.mono (c_Put hr3 5 0 w1) ?_
  rintro u H4 ⟨hv, hr4, -⟩
  rw [k1] at hv
  subst hv
  rw [xq3] at k3
  generalize (putM h3 5 0 (ww : Int)).2 = h4 at *
  have g44 : h4.g 4 = some P := by rw [k2, f2]; exact g4
  have g45 : h4.g 5 = some Q := by rw [k2, f2]; exact g5
  have g49 : h4.g 99 = none := by rw [k2, f2]; exact g99
  have X4P : h4.X P = (7, (List.replicate x.toNat 2).set 0 (vw : Int)) := by rw [k3, fset_ne hne, f3, fset_same]; rfl
  have X4Q : h4.X Q = (8, (List.replicate y.toNat 2).set 0 (ww : Int)) := by rw [k3, fset_same]; rfl
  obtain ⟨m1, m2, m3⟩ := swapM_ok g44 g45
  rw [swG_some g44 g45] at m2
  simp -implicitDefEqProofs only [eqA, eqD, go_sem]
  refine CW.mono (c_Swap hr4 4 5) ?_
  rintro u H5 ⟨hv, hr5, -⟩
  rw [m1] at hv
  subst hv
  generalize (swapM h4 4 5).2 = h5 at *
  have g54 : h5.g 4 = some Q := by rw [m2, fset_ne (by omega), fset_same]
  have g55 : h5.g 5 = some P := by rw [m2, fset_same]
  have g59 : h5.g 99 = none := by rw [m2, fset_ne (by omega), fset_ne (by omega)]; exact g49
  rw [← m3] at X4P X4Q
  have set0 : ∀ {x : Int} {w : Int}, 1 ≤ x → ((List.replicate x.toNat (2 : Int)).set 0 w)[0]? = some w := fun {x w} hx => by
    rw [List.getElem?_set]
    simp; omega
  have set1 : ∀ {x : Int} {w : Int}, 0 ≤ x → ((((List.replicate x.toNat (2 : Int)).set 0 w).length : Nat) : Int) = x := fun {x w} hx => by simp; omega
  have q4 : getM h5 4 0 = some (ww : Int) := getM_at (k := 0) g54 (by rw [X4Q]; exact set0 (by omega))
  have q5 : getM h5 5 0 = some (vw : Int) := getM_at (k := 0) g55 (by rw [X4P]; exact set0 (by omega))
  simp -implicitDefEqProofs only [Bool.false_eq_true, eqA, eqD, go_sem]
  refine CW.mono (c_Get hr5 4 0) ?_
  rintro u H6 ⟨rfl, hr6, -⟩
  rw [q4]
  simp -implicitDefEqProofs only [Option.getD_some, Option.isSome_some, eqA, eqD, go_sem]
  refine CW.mono (c_Get hr6 5 0) ?_
  rintro u H7 ⟨rfl, hr7, -⟩
  rw [q5]
  have sv : ((vw : Int) == (vw : Int)) = true := by simp
  have sw : ((ww : Int) == (ww : Int)) = true := by simp
  simp -implicitDefEqProofs only [Option.getD_some, Option.isSome_some, convA, ↓vb, ↓wb, sv, sw, eqA, eqD, go_sem]
  refine CW.mono (c_Class hr7 4) ?_
  rintro u H8 ⟨hv, hr8, -⟩
  rw [obM_at g54, X4Q] at hv
  subst hv
  simp -implicitDefEqProofs only [eqA, eqD, go_sem]
  refine CW.mono (c_Class hr8 5) ?_
  rintro u H9 ⟨hv, hr9, -⟩
  rw [obM_at g55, X4P] at hv
  subst hv
  simp -implicitDefEqProofs only [eqA, eqD, go_sem]
  refine CW.mono (c_Fields hr9 4) ?_
  rintro u HA ⟨hv, hrA, -⟩
  rw [obM_at g54, X4Q] at hv
  dsimp only at hv
  rw [set1 (by omega)] at hv
  subst hv
  have sx : (x == x) = true := by simp
  have sy : (y == y) = true := by simp
  simp -implicitDefEqProofs only [sy, eqA, eqD, go_sem]
  refine CW.mono (c_Fields hrA 5) ?_
  rintro u HB ⟨hv, hrB, -⟩
  rw [obM_at g55, X4P] at hv
  dsimp only at hv
  rw [set1 (by omega)] at hv
  subst hv
  obtain ⟨r1, r2, r3⟩ := swapM_ok g55 g54
  rw [swG_some g55 g54] at r2
  simp -implicitDefEqProofs only [sx, eqA, eqD, go_sem]
  refine CW.mono (c_Swap hrB 5 4) ?_
  rintro u HC ⟨hv, hrC, -⟩
  rw [r1] at hv
  subst hv
  generalize (swapM h5 5 4).2 = h6 at *
  have g64 : h6.g 4 = some P := by rw [r2, fset_same]
  have g65 : h6.g 5 = some Q := by rw [r2, fset_ne (by omega), fset_same]
  have g69 : h6.g 99 = none := by rw [r2, fset_ne (by omega), fset_ne (by omega)]; exact g59
  rw [← r3] at X4P X4Q
  have q64 : getM h6 4 0 = some (vw : Int) := getM_at (k := 0) g64 (by rw [X4P]; exact set0 (by omega))
  simp -implicitDefEqProofs only [Bool.false_eq_true, eqA, eqD, go_sem]
  refine CW.mono (c_Get hrC 4 0) ?_
  rintro u HD ⟨rfl, hrD, -⟩
  rw [q64]
  simp -implicitDefEqProofs only [Option.getD_some, Option.isSome_some, convA, ↓vb, ↓wb, sv, sw, eqA, eqD, go_sem]
  refine CW.mono (c_Class hrD 4) ?_
  rintro u HE ⟨hv, hrE, -⟩
  rw [obM_at g64, X4P] at hv
  subst hv
  simp -implicitDefEqProofs only [eqA, eqD, go_sem]
  refine CW.mono (c_Fields hrE 5) ?_
  rintro u HF ⟨hv, hrF, -⟩
  rw [obM_at g65, X4Q] at hv
  dsimp only at hv
  rw [set1 (by omega)] at hv
  subst hv
  obtain ⟨t1, t2, t3⟩ := swapM_ok g64 g64
  rw [swG_some g64 g64] at t2
  simp -implicitDefEqProofs only [sy, eqA, eqD, go_sem]
  refine CW.mono (c_Swap hrF 4 4) ?_
  rintro u HG ⟨hv, hrG, -⟩
  rw [t1] at hv
  subst hv
  generalize (swapM h6 4 4).2 = h7 at *
  have g74 : h7.g 4 = some P := by rw [t2, fset_same]
  have g79 : h7.g 99 = none := by rw [t2, fset_ne (by omega), fset_ne (by omega)]; exact g69
  rw [← t3] at X4P
  simp -implicitDefEqProofs only [eqA, eqD, go_sem]
  refine CW.mono (c_Class hrG 4) ?_
  rintro u HI ⟨hv, hrI, -⟩
  rw [obM_at g74, X4P] at hv
  subst hv
  simp -implicitDefEqProofs only [eqA, eqD, go_sem]
  refine CW.mono (c_Swap hrI 4 99) ?_
  rintro u HJ ⟨hv, -, -⟩
  rw [swapM_no g79] at hv
  subst hv
  simp -implicitDefEqProofs only [eqA, eqD, go_sem]
  refine CW.mono c_known9 ?_
  rintro u HK rfl
  simp -implicitDefEqProofs only [eqA, eqD, go_sem]
end
end Go.Proofs.Ytaihjlemofgokaa.AA
