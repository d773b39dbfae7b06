/- The six laws. -/
import Derived.Test.YtbbjlbdmjikhbaaGreatDoorKUniG
set_option linter.unusedSimpArgs false
set_option linter.unusedVariables false
namespace Go.Proofs.YtbbjlbdmjikhbaaGreatDoor.AA
open Go Go.RowKit
attribute [local go_sem ↓] WP_seq WP_skip WP_region WP_dregion WP_cond WP_block WP_exit WP_ret OW_nil OW_cons DW_nil DW_cons XW_call reduceIte OW_guard DW_guard
attribute [local go_sem] XW exA KO_eq OptK_some EvK_some GW2_true GW2_false KS_normal KS_ret KS_exit KB_normal KB_ret KB_exit CP2_bool RP_ret putA_some putA_none ev_t ev_c evs evo wantA initA resA Tr.get_set vl chkOk cond_true cond_false Nat.add_zero Nat.mul_one Nat.one_mul Nat.zero_add Nat.zero_mul aggOf pInt binA unA intA beq_true beq_false Bool.not_true Bool.not_false Bool.not_eq_true and_self and_true true_and reduceIte Nat.reduceEqDiff Nat.succ_ne_self Nat.reduceAdd Nat.reduceMul Nat.reduceSub Nat.reduceBEq Nat.reduceLT Nat.reduceLeDiff Int.cast_ofNat_Int Int.reduceToNat Int.reduceLT Int.reduceLE Int.reduceGE Int.reduceGT Int.reduceEq Int.reduceNe Int.reduceAdd Int.reduceSub Int.reduceNeg decide_true decide_false Int.toNat_natCast reduceCtorEq List.nil_append List.cons_append AV.boxy AV.cells List.length_cons List.length_nil Nat.beq_refl AOp.cl KDW_0 KDW_1 KDW_2 OWskip_eq DWskip_eq fillA setAt DChk DAt stepA ble_dec beq_dec Bool.and_self Bool.and_true Bool.true_and Bool.and_false Bool.false_and List.take_succ_cons List.take_zero List.drop_succ_cons List.drop_zero List.take_nil List.drop_nil List.append_nil eqAV eqAVL BEq.rfl sameS Option.map Option.isNone wrap64 gt_iff_lt ge_iff_le Int.lt_irrefl Int.le_refl
set_option maxRecDepth 100000
set_option maxHeartbeats 4000000
attribute [local irreducible] Tr.set
theorem tape_row {H : AHeap} {l : List Int} {v : AV} (h : SlE InE 1 H l [v]) : TapeR (H.newRow [v, .int .i64 0]) H.next := by
  obtain ⟨a, s0, cl, rfl, -⟩ := h.shape
  exact ⟨H, l, a, s0, cl, 0, Nat.le_refl _, Chg.newRow H _, h, Nat.zero_le _, Arr.newRow H _ _⟩
/-- A program off a tape that comes in. -/
theorem c_unitOf {H : AHeap} {l : List Int} {v : AV} (h : SlE InE 1 H l [v]) : CW MN 10 [.ptr (some (H.next, 0))] (H.newRow [v, .int .i64 0]) fun w H' => ∃ u cu, w = .agg cu ∧ UnE H' u cu ∧ TQ u ∧ Sm H H' :=
  (c_Unit (tape_row h)).mono fun w H' ⟨u, cu, h1, h2, h3, h4, h5⟩ => ⟨u, cu, h1, h2, h3.tq, Sm.of (by rw [show (H.newRow [v, .int .i64 0]).next = H.next + 1 from rfl] at h4; omega) fun z hz => by
    rw [h5 z (by rw [show (H.newRow [v, .int .i64 0]).next = H.next + 1 from rfl]; omega) (by omega), (Chg.newRow H _).gt hz]⟩
theorem TQ.main {u : UUnit} (h : TQ u) (k : Int) : unitP ⟨u.names, u.classes, u.methods, u.objects, k⟩ = if mainP ⟨u.names, u.classes, u.methods, u.objects, k⟩ = false then 15 else 0 := by
  have hr := h.right
  obtain ⟨l, S, tc⟩ := h.c
  have e1 : sizesP ⟨u.names, u.classes, u.methods, u.objects, k⟩ = true := decide_eq_true ⟨by rw [h.n]; decide, by rw [h.m9]; decide, by rw [h.m9]; decide, h.o1, by have := h.o5; show u.objects.length ≤ 40; omega⟩
  have e2 : namesP u.names = true := by rw [h.n]; exact names_ok
  have e3 : shapeP u.classes u.names.length u.methods.length = 0 := by rw [h.n, h.m9]; exact tc.shape
  have e4 : u.objects.all (objP ⟨u.names, u.classes, u.methods, u.objects, k⟩) = true := List.all_eq_true.2 fun o ho => h.obj ho
  have e5 : methodsP ⟨u.names, u.classes, u.methods, u.objects, k⟩ = 0 := h.meths
  unfold unitP
  dsimp only
  rw [e1, e2, e3, e4, e5]
  rfl
/-- The program, in a block of its own, to be written. -/
structure BoxW (H : AHeap) (u : UUnit) (b : Nat) (a1 : Option (Nat × Nat)) (s1 : Nat) (k1 : Bool) (a2 : Option (Nat × Nat)) (s2 : Nat) (k2 : Bool) (a3 : Option (Nat × Nat)) (s3 : Nat) (k3 : Bool) (a4 : Option (Nat × Nat)) (s4 : Nat) (k4 : Bool) : Prop where
  a : Arr H b [.slice a1 s1 u.names.length k1, .slice a2 s2 u.classes.length k2, .slice a3 s3 u.methods.length k3, .slice a4 s4 u.objects.length k4, .int .i64 u.main] fun _ => False
  u : UnE H u [.slice a1 s1 u.names.length k1, .slice a2 s2 u.classes.length k2, .slice a3 s3 u.methods.length k3, .slice a4 s4 u.objects.length k4, .int .i64 u.main]
section
variable {H : AHeap} {u : UUnit} {b : Nat} {a1 : Option (Nat × Nat)} {s1 : Nat} {k1 : Bool} {a2 : Option (Nat × Nat)} {s2 : Nat} {k2 : Bool} {a3 : Option (Nat × Nat)} {s3 : Nat} {k3 : Bool} {a4 : Option (Nat × Nat)} {s4 : Nat} {k4 : Bool}
theorem BoxW.sm {H' : AHeap} (h : BoxW H u b a1 s1 k1 a2 s2 k2 a3 s3 k3 a4 s4 k4) (s : Sm H H') : BoxW H' u b a1 s1 k1 a2 s2 k2 a3 s3 k3 a4 s4 k4 := ⟨h.a.sm s, MonoE.un _ _ _ _ h.u s⟩
theorem BoxW.lds (h : BoxW H u b a1 s1 k1 a2 s2 k2 a3 s3 k3 a4 s4 k4) : loadA H b 0 5 = some [.slice a1 s1 u.names.length k1, .slice a2 s2 u.classes.length k2, .slice a3 s3 u.methods.length k3, .slice a4 s4 u.objects.length k4, .int .i64 u.main] ∧ loadA H b 0 1 = some [.slice a1 s1 u.names.length k1] ∧ loadA H b 1 1 = some [.slice a2 s2 u.classes.length k2] ∧ loadA H b 2 1 = some [.slice a3 s3 u.methods.length k3] ∧ loadA H b 3 1 = some [.slice a4 s4 u.objects.length k4] ∧ loadA H b 4 1 = some [.int .i64 u.main] := by
  have r := h.a.rd
  have r0 := r.one (j := 0) rfl
  have r1 := r.one (j := 1) rfl
  have r2 := r.one (j := 2) rfl
  have r3 := r.one (j := 3) rfl
  have r4 := r.one (j := 4) rfl
  rw [Nat.zero_add] at r0 r1 r2 r3 r4
  exact ⟨r.load rfl, r0, r1, r2, r3, r4⟩
end
/-- Laid into a fresh block. -/
theorem BoxW.of {H : AHeap} {u : UUnit} {cu : List AV} (h : UnE H u cu) : ∃ a1 s1 k1 a2 s2 k2 a3 s3 k3 a4 s4 k4 H', cu = [.slice a1 s1 u.names.length k1, .slice a2 s2 u.classes.length k2, .slice a3 s3 u.methods.length k3, .slice a4 s4 u.objects.length k4, .int .i64 u.main] ∧ storeA (H.newRow [.slice none 1 0 true, .slice none 1 0 true, .slice none 1 0 true, .slice none 1 0 true, .int .i64 0]) H.next 0 [.slice a1 s1 u.names.length k1, .slice a2 s2 u.classes.length k2, .slice a3 s3 u.methods.length k3, .slice a4 s4 u.objects.length k4, .int .i64 u.main] = some H' ∧ Sm H H' ∧ H'.next = H.next + 1 ∧ BoxW H' u H.next a1 s1 k1 a2 s2 k2 a3 s3 k3 a4 s4 k4 := by
  obtain ⟨v1, v2, v3, v4, rfl, h0, q1, q2, q3, q4⟩ := id h
  obtain ⟨a1, s1, k1, rfl, -⟩ := q1.shape
  obtain ⟨a2, s2, k2, rfl, -⟩ := q2.shape
  obtain ⟨a3, s3, k3, rfl, -⟩ := q3.shape
  obtain ⟨a4, s4, k4, rfl, -⟩ := q4.shape
  obtain ⟨H', e, n, s, a⟩ := store_own H [.slice none 1 0 true, .slice none 1 0 true, .slice none 1 0 true, .slice none 1 0 true, .int .i64 0] [.slice a1 s1 u.names.length k1, .slice a2 s2 u.classes.length k2, .slice a3 s3 u.methods.length k3, .slice a4 s4 u.objects.length k4, .int .i64 u.main] rfl
  exact ⟨a1, s1, k1, a2, s2, k2, a3, s3, k3, a4, s4, k4, H', rfl, e, s, n, a, MonoE.un _ _ _ _ h s⟩
set_option maxHeartbeats 4000000
theorem chainN_succ (n : Nat) (l : List UClass) (i : Int) : chainN (n + 1) l i = if 0 ≤ i ∧ i < l.length then i :: chainN n l (clAt l i).super else [] := rfl
theorem chain_more : ∀ (n : Nat) (l : List UClass) (i : Int), (chainN n l i).length < n → chainN (n + 1) l i = chainN n l i
  | 0, l, i, h => absurd h (by omega)
  | n + 1, l, i, h => by
    rw [chainN_succ n] at h
    by_cases hi : 0 ≤ i ∧ i < l.length
    · rw [if_pos hi] at h
      rw [chainN_succ (n + 1), if_pos hi, chain_more n l _ (by simpa using h), chainN_succ n, if_pos hi]
    · rw [chainN_succ (n + 1), if_neg hi, chainN_succ n, if_neg hi]
theorem find_step {u : UUnit} (tq : TQ u) {c : Nat} (hc : c < u.classes.length) (s : Int) : uFindP u c s = match (u.classes[c]).binds.find? (fun b => b.1 == s) with
    | some b => b.2
    | none => if (u.classes[c]).super < 0 then -1 else uFindP u (u.classes[c]).super s := by
  obtain ⟨l, S, tc⟩ := tq.c
  have hsup := tc.sup
  have n5 := tc.f.n5; have hn := tc.n
  unfold uFindP chainP
  rw [chainN_succ, if_pos (by omega), findL, clAt_nat hc]
  have h1 := chain_le hsup 7 (u.classes[c]).super
  have h2 := hsup c hc
  rw [clAt_nat hc] at h2
  cases hf : (u.classes[c]).binds.find? (fun b => b.1 == s) with
  | some b => rfl
  | none =>
    dsimp only
    by_cases hlt : (u.classes[c]).super < 0
    · rw [if_pos hlt, chainN_succ, if_neg (by omega)]; rfl
    · rw [if_neg hlt, chain_more 7 u.classes _ (by omega)]
theorem c_UnitFinds {H : AHeap} {l : List Int} {v : AV} (h : SlE InE 1 H l [v]) (cls sel : Int) : CW MN 5 [v, .int .i64 cls, .int .i64 sel] H fun w H' => w = .bool true ∧ Sm H H' := by
  refine CW_of (fn := af5) rfl ?_
  unfold af5
  obtain ⟨la, ls, lk, rfl, -⟩ := h.shape
  simp -implicitDefEqProofs only [go_sem]
  refine CW.mono (c_unitOf h) ?_
  rintro _ K0 ⟨u, cu, rfl, hu, tq, sK⟩
  obtain ⟨a1, s1, k1, a2, s2, k2, a3, s3, k3, a4, s4, k4, K1, rfl, e1, sm1, n1, bw⟩ := BoxW.of hu
  obtain ⟨d5, d0, d1, d2, d3, d4⟩ := bw.lds
  have hnl : (u.names.length : Int) = 6 := by rw [tq.n]; rfl
  have hcl : 3 ≤ u.classes.length ∧ u.classes.length ≤ 5 := by
    obtain ⟨l, S, tc⟩ := tq.c
    have := tc.f.n3; have := tc.f.n5; have := tc.n
    omega
  have wc : IntKind.i64.wrap ((u.classes.length : Int) - 1) = (u.classes.length : Int) - 1 := wrap64 (by omega) (by omega)
  have wn : IntKind.i64.wrap ((u.names.length : Int) - 1) = (u.names.length : Int) - 1 := wrap64 (by omega) (by omega)
  simp -implicitDefEqProofs only [e1, d1, wc, go_sem]
  refine CW.mono (c_withinN cls 0 _ K1 (by omega) (by omega) (by omega)) ?_
  rintro _ K2 ⟨⟨c, rfl, hc0, hc1⟩, rfl⟩
  simp -implicitDefEqProofs only [d1, d0, wc, wn, go_sem]
  refine CW.mono (c_withinN sel 0 _ K2 (by omega) (by omega) (by omega)) ?_
  rintro _ K ⟨⟨s, rfl, hs0, hs1⟩, rfl⟩
  obtain ⟨c, rfl⟩ : ∃ j : Nat, c = (j : Int) := ⟨c.toNat, by omega⟩
  have hc : c < u.classes.length := by omega
  have hcI : (c : Int) < (u.classes.length : Int) := by omega
  have hst := find_step tq hc s
  simp -implicitDefEqProofs only [d1, d0, d5, wc, wn, go_sem]
  refine CW.mono (c_Find bw.u (by unfold I64; omega) s) ?_
  rintro _ G ⟨rfl, t1⟩
  generalize hR : uFindP u c s = R at *
  have bG := bw.sm t1
  obtain ⟨g5, g0, g1, g2, g3, g4⟩ := bG.lds
  have s0G : Sm H G := (sK.trans sm1).trans t1
  have hcr : SlE ClE 4 G u.classes [.slice a2 s2 u.classes.length k2] := by
    obtain ⟨_, _, _, _, he, -, -, q2, -, -⟩ := bG.u
    cases he
    exact q2
  obtain ⟨xc, oc, vb, rfl, rfl, ldc, -, lsup, -, lb, hvb, -, hsu64, -⟩ := ClE.at hcr hc
  obtain ⟨ab, zb, cb, rfl, -⟩ := hvb.shape
  have mb := hvb.max
  simp only [iv] at lsup
  have hxl : xc < G.next := by
    obtain ⟨_, _, _, e, -, r⟩ := hcr.at hc
    cases e
    exact r.2.2.2.1
  have hsupT : (u.classes[c]).super < 0 ∨ 0 ≤ (u.classes[c]).super := by omega
  generalize hclv : u.classes[c] = cl at *
  simp -implicitDefEqProofs only [hcI, hc0, g1, lb, go_sem]
  refine WP_mono (Q := fun ex fr H' => ex = .exit 0 ∧ cl.binds.find? (fun b => b.1 == s) = none ∧ fr.get 7 = some (.ptr (some (K0.next, 0))) ∧ fr.get 8 = some (.int .i64 (c : Int)) ∧ fr.get 9 = some (.int .i64 s) ∧ fr.get 10 = some (.int .i64 R) ∧ Sm G H' ∨ ex = .ret ∧ fr.get 6 = some (.bool true) ∧ Sm G H') ?_ (WP_loop (fun n fr H' => ∃ j : Nat, n = cl.binds.length - j ∧ j ≤ cl.binds.length ∧ (∀ q (hq : q < cl.binds.length), q < j → (cl.binds[q].1 == s) = false) ∧ fr.get 7 = some (.ptr (some (K0.next, 0))) ∧ fr.get 8 = some (.int .i64 (c : Int)) ∧ fr.get 9 = some (.int .i64 s) ∧ fr.get 10 = some (.int .i64 R) ∧ fr.get 38 = some (.slice ab zb cl.binds.length cb) ∧ fr.get 39 = some (.int .i64 cl.binds.length) ∧ fr.get 40 = some (.int .i64 j) ∧ Sm G H') cl.binds.length ?_ ?_)
  rotate_left
  · refine ⟨0, rfl, by omega, fun q hq hq' => by omega, ?_⟩
    simp -implicitDefEqProofs only [go_sem]
    exact Chg.refl G
  · rintro n fr H4 ⟨j, hn, hj, hall, f7, f8, f9, f10, f38, f39, f40, s4⟩
    have j0 : (0 : Int) ≤ (j : Int) := by omega
    by_cases hjl : j < cl.binds.length
    · have hjl' : (j : Int) < (cl.binds.length : Int) := by omega
      have hwj := wrapS hjl mb
      obtain ⟨y, p, rfl, rfl, ldp, -, -, -, -, hy⟩ := PrE.at (MonoE.enc.sl _ _ _ _ hvb s4) hjl
      obtain ⟨H5, e1, e2, s5, r5⟩ := store_new H4 [.int .i64 0, .int .i64 0] [.int .i64 cl.binds[j].1, .int .i64 cl.binds[j].2] rfl
      have la := r5.one (j := 0) rfl
      have lc := r5.one (j := 1) rfl
      rw [Nat.zero_add] at la lc
      by_cases hq : cl.binds[j].1 = s
      · have hq' : (cl.binds[j].1 == s) = true := by simpa using hq
        have hf : cl.binds.find? (fun b => b.1 == s) = some cl.binds[j] := find_at hjl hq' fun q hq hqj => hall q hq hqj
        rw [hf] at hst
        have hR' : (R == cl.binds[j].2) = true := by simpa using hst
        simp -implicitDefEqProofs only [f7, f8, f9, f10, f38, f39, f40, hjl', j0, ldp, e1, la, lc, hq', hR', go_sem]
        refine CW.mono (c_known15 H5) ?_
        rintro _ H6 ⟨rfl, s6⟩
        have lc6 : loadA H6 H4.next 1 1 = some [.int .i64 cl.binds[j].2] := by rw [s6.ld (by omega), lc]
        simp -implicitDefEqProofs only [lc6, go_sem]
        exact .inr ((s4.trans s5).trans s6)
      · have hq' : (cl.binds[j].1 == s) = false := by simpa using hq
        simp -implicitDefEqProofs only [f7, f8, f9, f10, f38, f39, f40, hjl', j0, ldp, e1, la, lc, hq', hwj, Bool.false_eq_true, go_sem]
        refine ⟨cl.binds.length - (j + 1), by omega, j + 1, rfl, by omega, fun q hql hqj => ?_, rfl, s4.trans s5⟩
        by_cases e : q = j
        · subst e; exact hq'
        · exact hall q hql (by omega)
    · have hjl' : ¬ (j : Int) < (cl.binds.length : Int) := by omega
      simp -implicitDefEqProofs only [f7, f8, f9, f10, f38, f39, f40, hjl', Bool.false_eq_true, go_sem]
      refine .inl ⟨List.find?_eq_none.2 fun b hb => ?_, s4⟩
      obtain ⟨q, hq, rfl⟩ := List.getElem_of_mem hb
      rw [hall q hq (by omega)]; simp
  rintro ex fr H4 (⟨rfl, hf, f7, f8, f9, f10, s4⟩ | ⟨rfl, f6, s4⟩)
  rotate_left
  · simp -implicitDefEqProofs only [f6, go_sem]
    exact s0G.trans s4
  rw [hf] at hst
  have b4 := bG.sm s4
  obtain ⟨h5, h0, h1, h2, h3, h4⟩ := b4.lds
  have lsup4 : loadA H4 xc (oc + c * 4 + 1) 1 = some [.int .i64 cl.super] := by rw [s4.ld hxl, lsup]
  by_cases hsn : cl.super < 0
  · have hR' : (R == -1) = true := by
      dsimp only at hst
      rw [if_pos hsn] at hst; simpa using hst
    simp -implicitDefEqProofs only [f7, f8, f9, f10, h1, lsup4, hsn, hc0, hcI, hR', go_sem]
    refine CW.mono (c_known15 H4) ?_
    rintro _ H6 ⟨rfl, s6⟩
    simp -implicitDefEqProofs only [go_sem]
    exact (s0G.trans s4).trans s6
  · simp -implicitDefEqProofs only [f7, f8, f9, f10, h5, h1, lsup4, hsn, hc0, hcI, Bool.false_eq_true, go_sem]
    refine CW.mono (c_Find b4.u hsu64 s) ?_
    rintro _ H5 ⟨rfl, s5⟩
    have hR' : (R == uFindP u cl.super s) = true := by
      dsimp only at hst
      rw [if_neg hsn] at hst; simpa using hst
    obtain ⟨i5, i0, i1, -⟩ := (b4.sm s5).lds
    have lsup5 : loadA H5 xc (oc + c * 4 + 1) 1 = some [.int .i64 cl.super] := by rw [s5.ld (by have := s4.1; omega), lsup4]
    simp -implicitDefEqProofs only [f7, f8, f9, f10, h5, h1, i5, i1, lsup4, lsup5, hR', hc0, hcI, go_sem]
    refine CW.mono (c_known15 H5) ?_
    rintro _ H6 ⟨rfl, s6⟩
    obtain ⟨j5, j0, j1, -⟩ := ((b4.sm s5).sm s6).lds
    simp -implicitDefEqProofs only [f7, f8, f9, f10, h5, h1, i5, i1, j5, j1, lsup4, lsup5, hc0, hcI, go_sem]
    exact ((s0G.trans s4).trans s5).trans s6
set_option maxHeartbeats 4000000
theorem fit_le (n : Int) : 0 ≤ fitP n ∧ fitP n ≤ 64 := by
  unfold fitP
  repeat' split
  all_goals omega
theorem words_le : ∀ (l : List UObj) (a : Int), 0 ≤ a → a + 64 * (l.length : Int) ≤ 1000000 → 0 ≤ l.foldl (fun a o => IntKind.i64.wrap (a + fitP (ofP o.fields.length))) a ∧ l.foldl (fun a o => IntKind.i64.wrap (a + fitP (ofP o.fields.length))) a ≤ a + 64 * (l.length : Int)
  | [], a, h, _ => by simp; exact h
  | o :: l, a, h, h2 => by
    have hf := fit_le (ofP o.fields.length)
    rw [List.length_cons] at h2
    have hw : IntKind.i64.wrap (a + fitP (ofP o.fields.length)) = a + fitP (ofP o.fields.length) := wrap64 (by omega) (by omega)
    rw [List.foldl_cons, hw, List.length_cons]
    have := words_le l (a + fitP (ofP o.fields.length)) (by omega) (by omega)
    omega
def moreU (u : UUnit) (k : Nat) : UUnit := ⟨u.names, u.classes, u.methods, u.objects ++ [⟨1, List.replicate k (0, 0)⟩], u.main⟩
theorem TQ.words {u : UUnit} (h : TQ u) (k : Nat) : 0 ≤ wordsP u ∧ wordsP u ≤ 1000 ∧ wordsP (moreU u k) = wordsP u + fitP (ofP k) := by
  have h1 := words_le u.objects 0 (by omega) (by have := h.o5; omega)
  have h5 := h.o5
  have hf := fit_le (ofP k)
  have hw : wordsP u = u.objects.foldl (fun a o => IntKind.i64.wrap (a + fitP (ofP o.fields.length))) 0 := rfl
  refine ⟨by rw [hw]; exact h1.1, by rw [hw]; omega, ?_⟩
  show wordsL (u.objects ++ [⟨1, List.replicate k (0, 0)⟩]) = _
  unfold wordsL
  rw [List.foldl_append, hw]
  simp only [List.foldl_cons, List.foldl_nil, List.length_replicate]
  exact wrap64 (by omega) (by omega)
theorem TQ.more {u : UUnit} (h : TQ u) {k : Nat} (hk : k ≤ 62) : unitP (moreU u k) = 0 := by
  obtain ⟨l, S, tc⟩ := h.c
  have n3 := tc.f.n3; have hn := tc.n
  have hl : (moreU u k).objects.length = u.objects.length + 1 := by simp [moreU]
  have e1 : sizesP (moreU u k) = true := decide_eq_true ⟨by show u.names.length ≤ 48; rw [h.n]; decide, by show 1 ≤ u.methods.length; rw [h.m9]; decide, by show u.methods.length ≤ 32; rw [h.m9]; decide, by omega, by have := h.o5; omega⟩
  have e2 : namesP (moreU u k).names = true := by show namesP u.names = true; rw [h.n]; exact names_ok
  have e3 : shapeP (moreU u k).classes (moreU u k).names.length (moreU u k).methods.length = 0 := by show shapeP u.classes u.names.length u.methods.length = 0; rw [h.n, h.m9]; exact tc.shape
  have e5 : methodsP (moreU u k) = 0 := h.meths
  have e6 : mainP (moreU u k) = true := by
    show (decide (0 ≤ u.main ∧ u.main < u.methods.length) && decide ((mAt u u.main.toNat).args = 0)) = true
    rw [h.m, h.m9, show (6 : Int).toNat = 6 from rfl, h.argsQ (by omega)]; rfl
  have e4 : (moreU u k).objects.all (objP (moreU u k)) = true := List.all_eq_true.2 fun o ho => by
    rcases List.mem_append.1 (show o ∈ u.objects ++ [⟨1, List.replicate k (0, 0)⟩] from ho) with ho | ho
    · have hp := h.obj ho
      unfold objP at hp ⊢
      have hp' := Bool.and_eq_true _ _ ▸ hp
      have h1 : decide (1 ≤ o.cls ∧ o.cls < (moreU u k).classes.length ∧ o.fields.length ≤ 62 ∧ (1 < o.cls → (o.fields.length : Int) = (clAt (moreU u k).classes o.cls).fields)) = true := hp'.1
      rw [h1, Bool.true_and]
      refine List.all_eq_true.2 fun v hv => ?_
      have hv' := List.all_eq_true.1 hp'.2 v hv
      unfold valP at hv' ⊢
      by_cases q1 : v.1 = 0 ∨ v.1 = 1 ∨ v.1 = 2
      · rw [if_pos q1] at hv' ⊢; exact hv'
      rw [if_neg q1] at hv' ⊢
      by_cases q2 : v.1 = 3
      · rw [if_pos q2] at hv' ⊢; exact hv'
      rw [if_neg q2] at hv' ⊢
      by_cases q3 : v.1 = 4
      · rw [if_pos q3] at hv' ⊢
        have := of_decide_eq_true hv'
        exact decide_eq_true (by omega)
      rw [if_neg q3] at hv'
      cases hv'
    · obtain rfl : o = ⟨1, List.replicate k (0, 0)⟩ := by simpa using ho
      unfold objP
      rw [decide_eq_true, Bool.true_and]
      · refine List.all_eq_true.2 fun v hv => ?_
        rw [(List.mem_replicate.1 hv).2]; rfl
      · refine ⟨by dsimp only; omega, ?_, by rw [List.length_replicate]; exact hk, fun h => absurd h (by dsimp only; omega)⟩
        show (1 : Int) < (u.classes.length : Int)
        omega
  unfold unitP
  rw [e1, e2, e3, e4, e5, e6]
  rfl
set_option maxHeartbeats 4000000
theorem TQ.sm {u : UUnit} (h : TQ u) : SmU 64 u ∧ GeU u := by
  obtain ⟨l, S, tc⟩ := h.c
  have n3 := tc.f.n3; have n5 := tc.f.n5; have hn := tc.n
  have hm : ∀ m, m ∈ u.methods → ∃ a, methOk u.classes.length a m := fun m hm => by
    obtain ⟨j, hj, rfl⟩ := List.mem_iff_getElem.1 hm
    have := h.ma j (by have := h.m9; omega)
    rw [mAt_nat hj] at this
    exact ⟨_, this⟩
  refine ⟨⟨by rw [h.n]; decide, by omega, by rw [h.m9]; decide, by have := h.o5; omega, fun c hc => ?_, fun m hx => ?_, fun m hx => ?_, fun o ho => ?_⟩, ⟨by omega, by rw [h.m9]; decide, h.o1⟩⟩
  · rcases tc.bind hc with e | ⟨S, e⟩
    · rw [e]; decide
    · rw [e]; have := selS_len S 6; omega
  · obtain ⟨a, h1⟩ := hm m hx
    rw [h1.2.2.1.len]; decide
  · obtain ⟨a, -, -, -, l, e, h4, -, -, h7⟩ := hm m hx
    rw [h4, flatI_len, List.length_append, List.length_singleton]; omega
  · have hp := h.obj ho
    unfold objP at hp
    have hs2 := of_decide_eq_true (Bool.and_eq_true _ _ ▸ hp).1
    omega
set_option maxHeartbeats 4000000
set_option maxHeartbeats 4000000
theorem CpR.unK {H0 H' G : AHeap} {u : UUnit} {cu : List AV} (h : CpR H0 H' u cu) (k : KpM H0.next H' G) : UnE G u cu := by
  obtain ⟨lo, H1, H2, H3, v1, v2, v3, v4, rfl, hm, l0, l1, s, o1, k1, g2, l2, k23, g3, k3, g4, m2, m3, m4⟩ := h
  have q1 := k1.1; have q2 := k23.1; have q3 := k3.1
  exact ⟨v1, v2, v3, v4, rfl, hm, (o1.kp (Nat.le_refl _) (k1.trans (k.up (by omega)))).slE, (g2.kp ClO.mono (Nat.le_refl _) ((k23.trans k3).trans (k.up (by omega)))).slE ClO.cl m2, (g3.kp MeO.mono (m := H1.next) (by omega) (k3.trans (k.up (by omega)))).slE MeO.me m3, (g4.kp ObO.mono (m := H0.next) (by omega) k).slE ObO.ob m4⟩
theorem Arr.eq {H : AHeap} {x : Nat} {cs cs' : List AV} {P P' : Nat → Prop} (h : Arr H x cs P) (h' : Arr H x cs' P') : cs = cs' := by
  obtain ⟨-, c, par, hc, hf, -⟩ := h
  obtain ⟨-, c', par', hc', hf', -⟩ := h'
  rw [hc] at hc'
  injection hc' with e1 e2 e3 e4
  subst e1
  refine List.ext_getElem e2 fun j h1 h2 => ?_
  have a1 := hf j cs[j] (List.getElem?_eq_getElem h1)
  have a2 := hf' j cs'[j] (List.getElem?_eq_getElem h2)
  rw [a1] at a2
  exact Option.some.inj a2
end Go.Proofs.YtbbjlbdmjikhbaaGreatDoor.AA
