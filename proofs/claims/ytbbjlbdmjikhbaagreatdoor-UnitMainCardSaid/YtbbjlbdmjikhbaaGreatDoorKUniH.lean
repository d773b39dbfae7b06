/- The six laws. -/
import Derived.Test.YtbbjlbdmjikhbaaGreatDoorKUniG
set_option linter.unusedSimpArgs false
set_option linter.unusedVariables false
namespace Go.Proofs.YtbbjlbdmjikhbaaGreatDoor.AA
open Go Go.RowKit
attribute [local go_sem ↓] WP_seq WP_skip WP_region WP_dregion WP_cond WP_block WP_exit WP_ret OW_nil OW_cons DW_nil DW_cons XW_call reduceIte OW_guard DW_guard
attribute [local go_sem] XW exA KO_eq OptK_some EvK_some GW2_true GW2_false KS_normal KS_ret KS_exit KB_normal KB_ret KB_exit CP2_bool RP_ret putA_some putA_none ev_t ev_c evs evo wantA initA resA Tr.get_set vl chkOk cond_true cond_false Nat.add_zero Nat.mul_one Nat.one_mul Nat.zero_add Nat.zero_mul aggOf pInt binA unA intA beq_true beq_false Bool.not_true Bool.not_false Bool.not_eq_true and_self and_true true_and reduceIte Nat.reduceEqDiff Nat.succ_ne_self Nat.reduceAdd Nat.reduceMul Nat.reduceSub Nat.reduceBEq Nat.reduceLT Nat.reduceLeDiff Int.cast_ofNat_Int Int.reduceToNat Int.reduceLT Int.reduceLE Int.reduceGE Int.reduceGT Int.reduceEq Int.reduceNe Int.reduceAdd Int.reduceSub Int.reduceNeg decide_true decide_false Int.toNat_natCast reduceCtorEq List.nil_append List.cons_append AV.boxy AV.cells List.length_cons List.length_nil Nat.beq_refl AOp.cl KDW_0 KDW_1 KDW_2 OWskip_eq DWskip_eq fillA setAt DChk DAt stepA ble_dec beq_dec Bool.and_self Bool.and_true Bool.true_and Bool.and_false Bool.false_and List.take_succ_cons List.take_zero List.drop_succ_cons List.drop_zero List.take_nil List.drop_nil List.append_nil eqAV eqAVL BEq.rfl sameS Option.map Option.isNone wrap64 gt_iff_lt ge_iff_le Int.lt_irrefl Int.le_refl
set_option maxRecDepth 100000
set_option maxHeartbeats 4000000
attribute [local irreducible] Tr.set
theorem tape_row {H : AHeap} {l : List Int} {v : AV} (h : SlE InE 1 H l [v]) : TapeR (H.newRow [v, .int .i64 0]) H.next := by
  obtain ⟨a, s0, cl, rfl, -⟩ := h.shape
  exact ⟨H, l, a, s0, cl, 0, Nat.le_refl _, Chg.newRow H _, h, Nat.zero_le _, Arr.newRow H _ _⟩
/-- A program off a tape that comes in. -/
theorem c_unitOf {H : AHeap} {l : List Int} {v : AV} (h : SlE InE 1 H l [v]) : CW MN 10 [.ptr (some (H.next, 0))] (H.newRow [v, .int .i64 0]) fun w H' => ∃ u cu, w = .agg cu ∧ UnE H' u cu ∧ TQ u ∧ Sm H H' :=
  (c_Unit (tape_row h)).mono fun w H' ⟨u, cu, h1, h2, h3, h4, h5⟩ => ⟨u, cu, h1, h2, h3.tq, Sm.of (by rw [show (H.newRow [v, .int .i64 0]).next = H.next + 1 from rfl] at h4; omega) fun z hz => by
    rw [h5 z (by rw [show (H.newRow [v, .int .i64 0]).next = H.next + 1 from rfl]; omega) (by omega), (Chg.newRow H _).gt hz]⟩
theorem TQ.main {u : UUnit} (h : TQ u) (k : Int) : unitP ⟨u.names, u.classes, u.methods, u.objects, k⟩ = if mainP ⟨u.names, u.classes, u.methods, u.objects, k⟩ = false then 15 else 0 := by
  have hr := h.right
  obtain ⟨l, S, tc⟩ := h.c
  have e1 : sizesP ⟨u.names, u.classes, u.methods, u.objects, k⟩ = true := decide_eq_true ⟨by rw [h.n]; decide, by rw [h.m9]; decide, by rw [h.m9]; decide, h.o1, by have := h.o5; show u.objects.length ≤ 40; omega⟩
  have e2 : namesP u.names = true := by rw [h.n]; exact names_ok
  have e3 : shapeP u.classes u.names.length u.methods.length = 0 := by rw [h.n, h.m9]; exact tc.shape
  have e4 : u.objects.all (objP ⟨u.names, u.classes, u.methods, u.objects, k⟩) = true := List.all_eq_true.2 fun o ho => h.obj ho
  have e5 : methodsP ⟨u.names, u.classes, u.methods, u.objects, k⟩ = 0 := h.meths
  unfold unitP
  dsimp only
  rw [e1, e2, e3, e4, e5]
  rfl
/-- The program, in a block of its own, to be written. -/
structure BoxW (H : AHeap) (u : UUnit) (b : Nat) (a1 : Option (Nat × Nat)) (s1 : Nat) (k1 : Bool) (a2 : Option (Nat × Nat)) (s2 : Nat) (k2 : Bool) (a3 : Option (Nat × Nat)) (s3 : Nat) (k3 : Bool) (a4 : Option (Nat × Nat)) (s4 : Nat) (k4 : Bool) : Prop where
  a : Arr H b [.slice a1 s1 u.names.length k1, .slice a2 s2 u.classes.length k2, .slice a3 s3 u.methods.length k3, .slice a4 s4 u.objects.length k4, .int .i64 u.main] fun _ => False
  u : UnE H u [.slice a1 s1 u.names.length k1, .slice a2 s2 u.classes.length k2, .slice a3 s3 u.methods.length k3, .slice a4 s4 u.objects.length k4, .int .i64 u.main]
section
variable {H : AHeap} {u : UUnit} {b : Nat} {a1 : Option (Nat × Nat)} {s1 : Nat} {k1 : Bool} {a2 : Option (Nat × Nat)} {s2 : Nat} {k2 : Bool} {a3 : Option (Nat × Nat)} {s3 : Nat} {k3 : Bool} {a4 : Option (Nat × Nat)} {s4 : Nat} {k4 : Bool}
theorem BoxW.sm {H' : AHeap} (h : BoxW H u b a1 s1 k1 a2 s2 k2 a3 s3 k3 a4 s4 k4) (s : Sm H H') : BoxW H' u b a1 s1 k1 a2 s2 k2 a3 s3 k3 a4 s4 k4 := ⟨h.a.sm s, MonoE.un _ _ _ _ h.u s⟩
theorem BoxW.lds (h : BoxW H u b a1 s1 k1 a2 s2 k2 a3 s3 k3 a4 s4 k4) : loadA H b 0 5 = some [.slice a1 s1 u.names.length k1, .slice a2 s2 u.classes.length k2, .slice a3 s3 u.methods.length k3, .slice a4 s4 u.objects.length k4, .int .i64 u.main] ∧ loadA H b 0 1 = some [.slice a1 s1 u.names.length k1] ∧ loadA H b 1 1 = some [.slice a2 s2 u.classes.length k2] ∧ loadA H b 2 1 = some [.slice a3 s3 u.methods.length k3] ∧ loadA H b 3 1 = some [.slice a4 s4 u.objects.length k4] ∧ loadA H b 4 1 = some [.int .i64 u.main] := by
  have r := h.a.rd
  have r0 := r.one (j := 0) rfl
  have r1 := r.one (j := 1) rfl
  have r2 := r.one (j := 2) rfl
  have r3 := r.one (j := 3) rfl
  have r4 := r.one (j := 4) rfl
  rw [Nat.zero_add] at r0 r1 r2 r3 r4
  exact ⟨r.load rfl, r0, r1, r2, r3, r4⟩
end
/-- Laid into a fresh block. -/
theorem BoxW.of {H : AHeap} {u : UUnit} {cu : List AV} (h : UnE H u cu) : ∃ a1 s1 k1 a2 s2 k2 a3 s3 k3 a4 s4 k4 H', cu = [.slice a1 s1 u.names.length k1, .slice a2 s2 u.classes.length k2, .slice a3 s3 u.methods.length k3, .slice a4 s4 u.objects.length k4, .int .i64 u.main] ∧ storeA (H.newRow [.slice none 1 0 true, .slice none 1 0 true, .slice none 1 0 true, .slice none 1 0 true, .int .i64 0]) H.next 0 [.slice a1 s1 u.names.length k1, .slice a2 s2 u.classes.length k2, .slice a3 s3 u.methods.length k3, .slice a4 s4 u.objects.length k4, .int .i64 u.main] = some H' ∧ Sm H H' ∧ H'.next = H.next + 1 ∧ BoxW H' u H.next a1 s1 k1 a2 s2 k2 a3 s3 k3 a4 s4 k4 := by
  obtain ⟨v1, v2, v3, v4, rfl, h0, q1, q2, q3, q4⟩ := id h
  obtain ⟨a1, s1, k1, rfl, -⟩ := q1.shape
  obtain ⟨a2, s2, k2, rfl, -⟩ := q2.shape
  obtain ⟨a3, s3, k3, rfl, -⟩ := q3.shape
  obtain ⟨a4, s4, k4, rfl, -⟩ := q4.shape
  obtain ⟨H', e, n, s, a⟩ := store_own H [.slice none 1 0 true, .slice none 1 0 true, .slice none 1 0 true, .slice none 1 0 true, .int .i64 0] [.slice a1 s1 u.names.length k1, .slice a2 s2 u.classes.length k2, .slice a3 s3 u.methods.length k3, .slice a4 s4 u.objects.length k4, .int .i64 u.main] rfl
  exact ⟨a1, s1, k1, a2, s2, k2, a3, s3, k3, a4, s4, k4, H', rfl, e, s, n, a, MonoE.un _ _ _ _ h s⟩
theorem c_UnitMain {H : AHeap} {l : List Int} {v : AV} (h : SlE InE 1 H l [v]) (main : Int) : CW MN 7 [v, .int .i64 main] H fun w H' => w = .bool true ∧ Sm H H' := by
  refine CW_of (fn := af7) rfl ?_
  unfold af7
  obtain ⟨la, ls, lk, rfl, -⟩ := h.shape
  simp -implicitDefEqProofs only [go_sem]
  refine CW.mono (c_unitOf h) ?_
  rintro _ K0 ⟨u, cu, rfl, hu, tq, sK⟩
  obtain ⟨a1, s1, k1, a2, s2, k2, a3, s3, k3, a4, s4, k4, K1, rfl, e1, sm1, n1, bw⟩ := BoxW.of hu
  obtain ⟨d5, d0, d1, d2, d3, d4⟩ := bw.lds
  have hm9 := tq.m9
  have hm9' : (u.methods.length : Int) = 9 := by omega
  simp -implicitDefEqProofs only [e1, d2, go_sem]
  refine CW.mono (c_withinN main (-1) _ K1 (by omega) (by omega) (by omega)) ?_
  rintro _ K ⟨⟨k, rfl, hk0, hk1⟩, rfl⟩
  have hk64 : I64 k := by unfold I64; omega
  obtain ⟨G, e2, n2, a5, p2⟩ := bw.a.store (o := 4) (vs := [.int .i64 k]) (cs' := [.slice a1 s1 u.names.length k1, .slice a2 s2 u.classes.length k2, .slice a3 s3 u.methods.length k3, .slice a4 s4 u.objects.length k4, .int .i64 k]) (by simp) rfl
  have p2' : ∀ z, z ≠ K0.next → G.get z = K.get z := fun z hz => p2 z hz (fun h => h)
  have sG : Sm K0 G := Sm.of (by have := sm1.1; omega) fun z hz => by rw [p2' z (by omega), sm1.gt hz]
  have uG : UnE G ⟨u.names, u.classes, u.methods, u.objects, k⟩ [.slice a1 s1 u.names.length k1, .slice a2 s2 u.classes.length k2, .slice a3 s3 u.methods.length k3, .slice a4 s4 u.objects.length k4, .int .i64 k] := by
    obtain ⟨_, _, _, _, he, h0, q1, q2, q3, q4⟩ := MonoE.un _ _ _ _ hu sG
    cases he
    exact ⟨_, _, _, _, rfl, hk64, q1, q2, q3, q4⟩
  have f5 : loadA G K0.next 0 5 = some [.slice a1 s1 u.names.length k1, .slice a2 s2 u.classes.length k2, .slice a3 s3 u.methods.length k3, .slice a4 s4 u.objects.length k4, .int .i64 k] := a5.rd.load rfl
  simp -implicitDefEqProofs only [e2, f5, go_sem]
  refine CW.mono (c_unitRight uG) ?_
  rintro _ G1 ⟨rfl, t1⟩
  rw [tq.main]
  have hmr := (MonoE.me.sl _ _ _ _ (show SlE MeE 4 G u.methods [.slice a3 s3 u.methods.length k3] from by obtain ⟨_, _, _, _, he, -, -, -, q3, -⟩ := uG; cases he; exact q3) t1)
  have g2 := (a5.sm t1).rd.one (j := 2) rfl
  rw [Nat.zero_add] at g2
  have s01 : Sm H G1 := (sK.trans sG).trans t1
  have eb0 : eqA (.sc .bool) (.bool false) (.bool false) = some true := by decide
  have eb1 : eqA (.sc .bool) (.bool true) (.bool true) = some true := by decide
  by_cases hk : 0 ≤ k
  rotate_left
  · have em : mainP ⟨u.names, u.classes, u.methods, u.objects, k⟩ = false := by
      unfold mainP
      rw [decide_eq_false (by dsimp only; omega), Bool.false_and]
    simp -implicitDefEqProofs only [eb0, eb1, em, hk, g2, Int.reduceBEq, Bool.false_eq_true, go_sem]
    refine CW.mono (c_known15 G1) ?_
    rintro _ G2 ⟨rfl, t2⟩
    simp -implicitDefEqProofs only [g2, go_sem]
    exact s01.trans t2
  by_cases hk9 : k < (u.methods.length : Int)
  rotate_left
  · have em : mainP ⟨u.names, u.classes, u.methods, u.objects, k⟩ = false := by
      unfold mainP
      rw [decide_eq_false (by dsimp only; omega), Bool.false_and]
    simp -implicitDefEqProofs only [eb0, eb1, em, hk, hk9, g2, Int.reduceBEq, Bool.false_eq_true, go_sem]
    refine CW.mono (c_known15 G1) ?_
    rintro _ G2 ⟨rfl, t2⟩
    simp -implicitDefEqProofs only [g2, go_sem]
    exact s01.trans t2
  obtain ⟨j, rfl⟩ : ∃ j : Nat, k = (j : Int) := ⟨k.toNat, by omega⟩
  have hj : j < u.methods.length := by omega
  obtain ⟨x, o, cl, rfl, rfl, ld, hcl, ⟨vl', vw, rfl, -⟩, rd⟩ := hmr.at hj
  have g0 := rd.one (j := 0) rfl
  simp only [Nat.add_zero, iv] at g0
  have em : mainP ⟨u.names, u.classes, u.methods, u.objects, (j : Int)⟩ = decide (u.methods[j].args = 0) := by
    unfold mainP
    rw [decide_eq_true (by dsimp only; omega), Bool.true_and]
    dsimp only
    rw [Int.toNat_natCast]
    show decide ((u.methods.getD j dM).args = 0) = _
    rw [List.getD_eq_getElem?_getD, List.getElem?_eq_getElem hj]; rfl
  by_cases ha : u.methods[j].args = 0
  · have hb : (u.methods[j].args == 0) = true := by simpa using ha
    simp -implicitDefEqProofs only [eb0, eb1, em, hk, hk9, g2, g0, ha, hb, Int.reduceBEq, Bool.false_eq_true, Bool.true_eq_false, go_sem]
    refine CW.mono (c_known15 G1) ?_
    rintro _ G2 ⟨rfl, t2⟩
    simp -implicitDefEqProofs only [g2, g0, go_sem]
    exact s01.trans t2
  · have hb : (u.methods[j].args == 0) = false := by simpa using ha
    simp -implicitDefEqProofs only [eb0, eb1, em, hk, hk9, g2, g0, ha, hb, Int.reduceBEq, Bool.false_eq_true, Bool.true_eq_false, go_sem]
    refine CW.mono (c_known15 G1) ?_
    rintro _ G2 ⟨rfl, t2⟩
    simp -implicitDefEqProofs only [g2, g0, go_sem]
    exact s01.trans t2
set_option maxHeartbeats 4000000
set_option maxHeartbeats 4000000
theorem fit_le (n : Int) : 0 ≤ fitP n ∧ fitP n ≤ 64 := by
  unfold fitP
  repeat' split
  all_goals omega
theorem words_le : ∀ (l : List UObj) (a : Int), 0 ≤ a → a + 64 * (l.length : Int) ≤ 1000000 → 0 ≤ l.foldl (fun a o => IntKind.i64.wrap (a + fitP (ofP o.fields.length))) a ∧ l.foldl (fun a o => IntKind.i64.wrap (a + fitP (ofP o.fields.length))) a ≤ a + 64 * (l.length : Int)
  | [], a, h, _ => by simp; exact h
  | o :: l, a, h, h2 => by
    have hf := fit_le (ofP o.fields.length)
    rw [List.length_cons] at h2
    have hw : IntKind.i64.wrap (a + fitP (ofP o.fields.length)) = a + fitP (ofP o.fields.length) := wrap64 (by omega) (by omega)
    rw [List.foldl_cons, hw, List.length_cons]
    have := words_le l (a + fitP (ofP o.fields.length)) (by omega) (by omega)
    omega
def moreU (u : UUnit) (k : Nat) : UUnit := ⟨u.names, u.classes, u.methods, u.objects ++ [⟨1, List.replicate k (0, 0)⟩], u.main⟩
theorem TQ.words {u : UUnit} (h : TQ u) (k : Nat) : 0 ≤ wordsP u ∧ wordsP u ≤ 1000 ∧ wordsP (moreU u k) = wordsP u + fitP (ofP k) := by
  have h1 := words_le u.objects 0 (by omega) (by have := h.o5; omega)
  have h5 := h.o5
  have hf := fit_le (ofP k)
  have hw : wordsP u = u.objects.foldl (fun a o => IntKind.i64.wrap (a + fitP (ofP o.fields.length))) 0 := rfl
  refine ⟨by rw [hw]; exact h1.1, by rw [hw]; omega, ?_⟩
  show wordsL (u.objects ++ [⟨1, List.replicate k (0, 0)⟩]) = _
  unfold wordsL
  rw [List.foldl_append, hw]
  simp only [List.foldl_cons, List.foldl_nil, List.length_replicate]
  exact wrap64 (by omega) (by omega)
theorem TQ.more {u : UUnit} (h : TQ u) {k : Nat} (hk : k ≤ 62) : unitP (moreU u k) = 0 := by
  obtain ⟨l, S, tc⟩ := h.c
  have n3 := tc.f.n3; have hn := tc.n
  have hl : (moreU u k).objects.length = u.objects.length + 1 := by simp [moreU]
  have e1 : sizesP (moreU u k) = true := decide_eq_true ⟨by show u.names.length ≤ 48; rw [h.n]; decide, by show 1 ≤ u.methods.length; rw [h.m9]; decide, by show u.methods.length ≤ 32; rw [h.m9]; decide, by omega, by have := h.o5; omega⟩
  have e2 : namesP (moreU u k).names = true := by show namesP u.names = true; rw [h.n]; exact names_ok
  have e3 : shapeP (moreU u k).classes (moreU u k).names.length (moreU u k).methods.length = 0 := by show shapeP u.classes u.names.length u.methods.length = 0; rw [h.n, h.m9]; exact tc.shape
  have e5 : methodsP (moreU u k) = 0 := h.meths
  have e6 : mainP (moreU u k) = true := by
    show (decide (0 ≤ u.main ∧ u.main < u.methods.length) && decide ((mAt u u.main.toNat).args = 0)) = true
    rw [h.m, h.m9, show (6 : Int).toNat = 6 from rfl, h.argsQ (by omega)]; rfl
  have e4 : (moreU u k).objects.all (objP (moreU u k)) = true := List.all_eq_true.2 fun o ho => by
    rcases List.mem_append.1 (show o ∈ u.objects ++ [⟨1, List.replicate k (0, 0)⟩] from ho) with ho | ho
    · have hp := h.obj ho
      unfold objP at hp ⊢
      have hp' := Bool.and_eq_true _ _ ▸ hp
      have h1 : decide (1 ≤ o.cls ∧ o.cls < (moreU u k).classes.length ∧ o.fields.length ≤ 62 ∧ (1 < o.cls → (o.fields.length : Int) = (clAt (moreU u k).classes o.cls).fields)) = true := hp'.1
      rw [h1, Bool.true_and]
      refine List.all_eq_true.2 fun v hv => ?_
      have hv' := List.all_eq_true.1 hp'.2 v hv
      unfold valP at hv' ⊢
      by_cases q1 : v.1 = 0 ∨ v.1 = 1 ∨ v.1 = 2
      · rw [if_pos q1] at hv' ⊢; exact hv'
      rw [if_neg q1] at hv' ⊢
      by_cases q2 : v.1 = 3
      · rw [if_pos q2] at hv' ⊢; exact hv'
      rw [if_neg q2] at hv' ⊢
      by_cases q3 : v.1 = 4
      · rw [if_pos q3] at hv' ⊢
        have := of_decide_eq_true hv'
        exact decide_eq_true (by omega)
      rw [if_neg q3] at hv'
      cases hv'
    · obtain rfl : o = ⟨1, List.replicate k (0, 0)⟩ := by simpa using ho
      unfold objP
      rw [decide_eq_true, Bool.true_and]
      · refine List.all_eq_true.2 fun v hv => ?_
        rw [(List.mem_replicate.1 hv).2]; rfl
      · refine ⟨by dsimp only; omega, ?_, by rw [List.length_replicate]; exact hk, fun h => absurd h (by dsimp only; omega)⟩
        show (1 : Int) < (u.classes.length : Int)
        omega
  unfold unitP
  rw [e1, e2, e3, e4, e5, e6]
  rfl
set_option maxHeartbeats 4000000
theorem TQ.sm {u : UUnit} (h : TQ u) : SmU 64 u ∧ GeU u := by
  obtain ⟨l, S, tc⟩ := h.c
  have n3 := tc.f.n3; have n5 := tc.f.n5; have hn := tc.n
  have hm : ∀ m, m ∈ u.methods → ∃ a, methOk u.classes.length a m := fun m hm => by
    obtain ⟨j, hj, rfl⟩ := List.mem_iff_getElem.1 hm
    have := h.ma j (by have := h.m9; omega)
    rw [mAt_nat hj] at this
    exact ⟨_, this⟩
  refine ⟨⟨by rw [h.n]; decide, by omega, by rw [h.m9]; decide, by have := h.o5; omega, fun c hc => ?_, fun m hx => ?_, fun m hx => ?_, fun o ho => ?_⟩, ⟨by omega, by rw [h.m9]; decide, h.o1⟩⟩
  · rcases tc.bind hc with e | ⟨S, e⟩
    · rw [e]; decide
    · rw [e]; have := selS_len S 6; omega
  · obtain ⟨a, h1⟩ := hm m hx
    rw [h1.2.2.1.len]; decide
  · obtain ⟨a, -, -, -, l, e, h4, -, -, h7⟩ := hm m hx
    rw [h4, flatI_len, List.length_append, List.length_singleton]; omega
  · have hp := h.obj ho
    unfold objP at hp
    have hs2 := of_decide_eq_true (Bool.and_eq_true _ _ ▸ hp).1
    omega
set_option maxHeartbeats 4000000
set_option maxHeartbeats 4000000
theorem CpR.unK {H0 H' G : AHeap} {u : UUnit} {cu : List AV} (h : CpR H0 H' u cu) (k : KpM H0.next H' G) : UnE G u cu := by
  obtain ⟨lo, H1, H2, H3, v1, v2, v3, v4, rfl, hm, l0, l1, s, o1, k1, g2, l2, k23, g3, k3, g4, m2, m3, m4⟩ := h
  have q1 := k1.1; have q2 := k23.1; have q3 := k3.1
  exact ⟨v1, v2, v3, v4, rfl, hm, (o1.kp (Nat.le_refl _) (k1.trans (k.up (by omega)))).slE, (g2.kp ClO.mono (Nat.le_refl _) ((k23.trans k3).trans (k.up (by omega)))).slE ClO.cl m2, (g3.kp MeO.mono (m := H1.next) (by omega) (k3.trans (k.up (by omega)))).slE MeO.me m3, (g4.kp ObO.mono (m := H0.next) (by omega) k).slE ObO.ob m4⟩
theorem Arr.eq {H : AHeap} {x : Nat} {cs cs' : List AV} {P P' : Nat → Prop} (h : Arr H x cs P) (h' : Arr H x cs' P') : cs = cs' := by
  obtain ⟨-, c, par, hc, hf, -⟩ := h
  obtain ⟨-, c', par', hc', hf', -⟩ := h'
  rw [hc] at hc'
  injection hc' with e1 e2 e3 e4
  subst e1
  refine List.ext_getElem e2 fun j h1 h2 => ?_
  have a1 := hf j cs[j] (List.getElem?_eq_getElem h1)
  have a2 := hf' j cs'[j] (List.getElem?_eq_getElem h2)
  rw [a1] at a2
  exact Option.some.inj a2
end Go.Proofs.YtbbjlbdmjikhbaaGreatDoor.AA
