/- The six laws. -/
import Derived.Test.YtbbjlbdmjikhbaaGreatDoorKUniG
set_option linter.unusedSimpArgs false
set_option linter.unusedVariables false
namespace Go.Proofs.YtbbjlbdmjikhbaaGreatDoor.AA
open Go Go.RowKit
attribute [local go_sem ↓] WP_seq WP_skip WP_region WP_dregion WP_cond WP_block WP_exit WP_ret OW_nil OW_cons DW_nil DW_cons XW_call reduceIte OW_guard DW_guard
attribute [local go_sem] XW exA KO_eq OptK_some EvK_some GW2_true GW2_false KS_normal KS_ret KS_exit KB_normal KB_ret KB_exit CP2_bool RP_ret putA_some putA_none ev_t ev_c evs evo wantA initA resA Tr.get_set vl chkOk cond_true cond_false Nat.add_zero Nat.mul_one Nat.one_mul Nat.zero_add Nat.zero_mul aggOf pInt binA unA intA beq_true beq_false Bool.not_true Bool.not_false Bool.not_eq_true and_self and_true true_and reduceIte Nat.reduceEqDiff Nat.succ_ne_self Nat.reduceAdd Nat.reduceMul Nat.reduceSub Nat.reduceBEq Nat.reduceLT Nat.reduceLeDiff Int.cast_ofNat_Int Int.reduceToNat Int.reduceLT Int.reduceLE Int.reduceGE Int.reduceGT Int.reduceEq Int.reduceNe Int.reduceAdd Int.reduceSub Int.reduceNeg decide_true decide_false Int.toNat_natCast reduceCtorEq List.nil_append List.cons_append AV.boxy AV.cells List.length_cons List.length_nil Nat.beq_refl AOp.cl KDW_0 KDW_1 KDW_2 OWskip_eq DWskip_eq fillA setAt DChk DAt stepA ble_dec beq_dec Bool.and_self Bool.and_true Bool.true_and Bool.and_false Bool.false_and List.take_succ_cons List.take_zero List.drop_succ_cons List.drop_zero List.take_nil List.drop_nil List.append_nil eqAV eqAVL BEq.rfl sameS Option.map Option.isNone wrap64 gt_iff_lt ge_iff_le Int.lt_irrefl Int.le_refl
set_option maxRecDepth 100000
set_option maxHeartbeats 4000000
attribute [local irreducible] Tr.set
theorem tape_row {H : AHeap} {l : List Int} {v : AV} (h : SlE InE 1 H l [v]) : TapeR (H.newRow [v, .int .i64 0]) H.next := by
  obtain ⟨a, s0, cl, rfl, -⟩ := h.shape
  exact ⟨H, l, a, s0, cl, 0, Nat.le_refl _, Chg.newRow H _, h, Nat.zero_le _, Arr.newRow H _ _⟩
theorem c_unitOf {H : AHeap} {l : List Int} {v : AV} (h : SlE InE 1 H l [v]) : CW MN 10 [.ptr (some (H.next, 0))] (H.newRow [v, .int .i64 0]) fun w H' => ∃ u cu, w = .agg cu ∧ UnE H' u cu ∧ TQ u ∧ Sm H H' :=
  (c_Unit (tape_row h)).mono fun w H' ⟨u, cu, h1, h2, h3, h4, h5⟩ => ⟨u, cu, h1, h2, h3.tq, Sm.of (by rw [show (H.newRow [v, .int .i64 0]).next = H.next + 1 from rfl] at h4; omega) fun z hz => by
    rw [h5 z (by rw [show (H.newRow [v, .int .i64 0]).next = H.next + 1 from rfl]; omega) (by omega), (Chg.newRow H _).gt hz]⟩
theorem TQ.main {u : UUnit} (h : TQ u) (k : Int) : unitP ⟨u.names, u.classes, u.methods, u.objects, k⟩ = if mainP ⟨u.names, u.classes, u.methods, u.objects, k⟩ = false then 15 else 0 := by
  have hr := h.right
  obtain ⟨l, S, tc⟩ := h.c
  have e1 : sizesP ⟨u.names, u.classes, u.methods, u.objects, k⟩ = true := decide_eq_true ⟨by rw [h.n]; decide, by rw [h.m9]; decide, by rw [h.m9]; decide, h.o1, by have := h.o5; show u.objects.length ≤ 40; omega⟩
  have e2 : namesP u.names = true := by rw [h.n]; exact names_ok
  have e3 : shapeP u.classes u.names.length u.methods.length = 0 := by rw [h.n, h.m9]; exact tc.shape
  have e4 : u.objects.all (objP ⟨u.names, u.classes, u.methods, u.objects, k⟩) = true := List.all_eq_true.2 fun o ho => h.obj ho
  have e5 : methodsP ⟨u.names, u.classes, u.methods, u.objects, k⟩ = 0 := h.meths
  unfold unitP
  dsimp only
  rw [e1, e2, e3, e4, e5]
  rfl
structure BoxW (H : AHeap) (u : UUnit) (b : Nat) (a1 : Option (Nat × Nat)) (s1 : Nat) (k1 : Bool) (a2 : Option (Nat × Nat)) (s2 : Nat) (k2 : Bool) (a3 : Option (Nat × Nat)) (s3 : Nat) (k3 : Bool) (a4 : Option (Nat × Nat)) (s4 : Nat) (k4 : Bool) : Prop where
  a : Arr H b [.slice a1 s1 u.names.length k1, .slice a2 s2 u.classes.length k2, .slice a3 s3 u.methods.length k3, .slice a4 s4 u.objects.length k4, .int .i64 u.main] fun _ => False
  u : UnE H u [.slice a1 s1 u.names.length k1, .slice a2 s2 u.classes.length k2, .slice a3 s3 u.methods.length k3, .slice a4 s4 u.objects.length k4, .int .i64 u.main]
section
variable {H : AHeap} {u : UUnit} {b : Nat} {a1 : Option (Nat × Nat)} {s1 : Nat} {k1 : Bool} {a2 : Option (Nat × Nat)} {s2 : Nat} {k2 : Bool} {a3 : Option (Nat × Nat)} {s3 : Nat} {k3 : Bool} {a4 : Option (Nat × Nat)} {s4 : Nat} {k4 : Bool}
theorem BoxW.sm {H' : AHeap} (h : BoxW H u b a1 s1 k1 a2 s2 k2 a3 s3 k3 a4 s4 k4) (s : Sm H H') : BoxW H' u b a1 s1 k1 a2 s2 k2 a3 s3 k3 a4 s4 k4 := ⟨h.a.sm s, MonoE.un _ _ _ _ h.u s⟩
theorem BoxW.lds (h : BoxW H u b a1 s1 k1 a2 s2 k2 a3 s3 k3 a4 s4 k4) : loadA H b 0 5 = some [.slice a1 s1 u.names.length k1, .slice a2 s2 u.classes.length k2, .slice a3 s3 u.methods.length k3, .slice a4 s4 u.objects.length k4, .int .i64 u.main] ∧ loadA H b 0 1 = some [.slice a1 s1 u.names.length k1] ∧ loadA H b 1 1 = some [.slice a2 s2 u.classes.length k2] ∧ loadA H b 2 1 = some [.slice a3 s3 u.methods.length k3] ∧ loadA H b 3 1 = some [.slice a4 s4 u.objects.length k4] ∧ loadA H b 4 1 = some [.int .i64 u.main] := by
  have r := h.a.rd
  have r0 := r.one (j := 0) rfl
  have r1 := r.one (j := 1) rfl
  have r2 := r.one (j := 2) rfl
  have r3 := r.one (j := 3) rfl
  have r4 := r.one (j := 4) rfl
  rw [Nat.zero_add] at r0 r1 r2 r3 r4
  exact ⟨r.load rfl, r0, r1, r2, r3, r4⟩
end
theorem BoxW.of {H : AHeap} {u : UUnit} {cu : List AV} (h : UnE H u cu) : ∃ a1 s1 k1 a2 s2 k2 a3 s3 k3 a4 s4 k4 H', cu = [.slice a1 s1 u.names.length k1, .slice a2 s2 u.classes.length k2, .slice a3 s3 u.methods.length k3, .slice a4 s4 u.objects.length k4, .int .i64 u.main] ∧ storeA (H.newRow [.slice none 1 0 true, .slice none 1 0 true, .slice none 1 0 true, .slice none 1 0 true, .int .i64 0]) H.next 0 [.slice a1 s1 u.names.length k1, .slice a2 s2 u.classes.length k2, .slice a3 s3 u.methods.length k3, .slice a4 s4 u.objects.length k4, .int .i64 u.main] = some H' ∧ Sm H H' ∧ H'.next = H.next + 1 ∧ BoxW H' u H.next a1 s1 k1 a2 s2 k2 a3 s3 k3 a4 s4 k4 := by
  obtain ⟨v1, v2, v3, v4, rfl, h0, q1, q2, q3, q4⟩ := id h
  obtain ⟨a1, s1, k1, rfl, -⟩ := q1.shape
  obtain ⟨a2, s2, k2, rfl, -⟩ := q2.shape
  obtain ⟨a3, s3, k3, rfl, -⟩ := q3.shape
  obtain ⟨a4, s4, k4, rfl, -⟩ := q4.shape
  obtain ⟨H', e, n, s, a⟩ := store_own H [.slice none 1 0 true, .slice none 1 0 true, .slice none 1 0 true, .slice none 1 0 true, .int .i64 0] [.slice a1 s1 u.names.length k1, .slice a2 s2 u.classes.length k2, .slice a3 s3 u.methods.length k3, .slice a4 s4 u.objects.length k4, .int .i64 u.main] rfl
  exact ⟨a1, s1, k1, a2, s2, k2, a3, s3, k3, a4, s4, k4, H', rfl, e, s, n, a, MonoE.un _ _ _ _ h s⟩
set_option maxHeartbeats 4000000
set_option maxHeartbeats 4000000
theorem fit_le (n : Int) : 0 ≤ fitP n ∧ fitP n ≤ 64 := by
  unfold fitP
  repeat' split
  all_goals omega
theorem words_le : ∀ (l : List UObj) (a : Int), 0 ≤ a → a + 64 * (l.length : Int) ≤ 1000000 → 0 ≤ l.foldl (fun a o => IntKind.i64.wrap (a + fitP (ofP o.fields.length))) a ∧ l.foldl (fun a o => IntKind.i64.wrap (a + fitP (ofP o.fields.length))) a ≤ a + 64 * (l.length : Int)
  | [], a, h, _ => by simp; exact h
  | o :: l, a, h, h2 => by
    have hf := fit_le (ofP o.fields.length)
    rw [List.length_cons] at h2
    have hw : IntKind.i64.wrap (a + fitP (ofP o.fields.length)) = a + fitP (ofP o.fields.length) := wrap64 (by omega) (by omega)
    rw [List.foldl_cons, hw, List.length_cons]
    have := words_le l (a + fitP (ofP o.fields.length)) (by omega) (by omega)
    omega
def moreU (u : UUnit) (k : Nat) : UUnit := ⟨u.names, u.classes, u.methods, u.objects ++ [⟨1, List.replicate k (0, 0)⟩], u.main⟩
theorem TQ.words {u : UUnit} (h : TQ u) (k : Nat) : 0 ≤ wordsP u ∧ wordsP u ≤ 1000 ∧ wordsP (moreU u k) = wordsP u + fitP (ofP k) := by
  have h1 := words_le u.objects 0 (by omega) (by have := h.o5; omega)
  have h5 := h.o5
  have hf := fit_le (ofP k)
  have hw : wordsP u = u.objects.foldl (fun a o => IntKind.i64.wrap (a + fitP (ofP o.fields.length))) 0 := rfl
  refine ⟨by rw [hw]; exact h1.1, by rw [hw]; omega, ?_⟩
  show wordsL (u.objects ++ [⟨1, List.replicate k (0, 0)⟩]) = _
  unfold wordsL
  rw [List.foldl_append, hw]
  simp only [List.foldl_cons, List.foldl_nil, List.length_replicate]
  exact wrap64 (by omega) (by omega)
theorem TQ.more {u : UUnit} (h : TQ u) {k : Nat} (hk : k ≤ 62) : unitP (moreU u k) = 0 := by
  obtain ⟨l, S, tc⟩ := h.c
  have n3 := tc.f.n3; have hn := tc.n
  have hl : (moreU u k).objects.length = u.objects.length + 1 := by simp [moreU]
  have e1 : sizesP (moreU u k) = true := decide_eq_true ⟨by show u.names.length ≤ 48; rw [h.n]; decide, by show 1 ≤ u.methods.length; rw [h.m9]; decide, by show u.methods.length ≤ 32; rw [h.m9]; decide, by omega, by have := h.o5; omega⟩
  have e2 : namesP (moreU u k).names = true := by show namesP u.names = true; rw [h.n]; exact names_ok
  have e3 : shapeP (moreU u k).classes (moreU u k).names.length (moreU u k).methods.length = 0 := by show shapeP u.classes u.names.length u.methods.length = 0; rw [h.n, h.m9]; exact tc.shape
  have e5 : methodsP (moreU u k) = 0 := h.meths
  have e6 : mainP (moreU u k) = true := by
    show (decide (0 ≤ u.main ∧ u.main < u.methods.length) && decide ((mAt u u.main.toNat).args = 0)) = true
    rw [h.m, h.m9, show (6 : Int).toNat = 6 from rfl, h.argsQ (by omega)]; rfl
  have e4 : (moreU u k).objects.all (objP (moreU u k)) = true := List.all_eq_true.2 fun o ho => by
    rcases List.mem_append.1 (show o ∈ u.objects ++ [⟨1, List.replicate k (0, 0)⟩] from ho) with ho | ho
    · have hp := h.obj ho
      unfold objP at hp ⊢
      have hp' := Bool.and_eq_true _ _ ▸ hp
      have h1 : decide (1 ≤ o.cls ∧ o.cls < (moreU u k).classes.length ∧ o.fields.length ≤ 62 ∧ (1 < o.cls → (o.fields.length : Int) = (clAt (moreU u k).classes o.cls).fields)) = true := hp'.1
      rw [h1, Bool.true_and]
      refine List.all_eq_true.2 fun v hv => ?_
      have hv' := List.all_eq_true.1 hp'.2 v hv
      unfold valP at hv' ⊢
      by_cases q1 : v.1 = 0 ∨ v.1 = 1 ∨ v.1 = 2
      · rw [if_pos q1] at hv' ⊢; exact hv'
      rw [if_neg q1] at hv' ⊢
      by_cases q2 : v.1 = 3
      · rw [if_pos q2] at hv' ⊢; exact hv'
      rw [if_neg q2] at hv' ⊢
      by_cases q3 : v.1 = 4
      · rw [if_pos q3] at hv' ⊢
        have := of_decide_eq_true hv'
        exact decide_eq_true (by omega)
      rw [if_neg q3] at hv'
      cases hv'
    · obtain rfl : o = ⟨1, List.replicate k (0, 0)⟩ := by simpa using ho
      unfold objP
      rw [decide_eq_true, Bool.true_and]
      · refine List.all_eq_true.2 fun v hv => ?_
        rw [(List.mem_replicate.1 hv).2]; rfl
      · refine ⟨by dsimp only; omega, ?_, by rw [List.length_replicate]; exact hk, fun h => absurd h (by dsimp only; omega)⟩
        show (1 : Int) < (u.classes.length : Int)
        omega
  unfold unitP
  rw [e1, e2, e3, e4, e5, e6]
  rfl
set_option maxHeartbeats 4000000
theorem TQ.sm {u : UUnit} (h : TQ u) : SmU 64 u ∧ GeU u := by
  obtain ⟨l, S, tc⟩ := h.c
  have n3 := tc.f.n3; have n5 := tc.f.n5; have hn := tc.n
  have hm : ∀ m, m ∈ u.methods → ∃ a, methOk u.classes.length a m := fun m hm => by
    obtain ⟨j, hj, rfl⟩ := List.mem_iff_getElem.1 hm
    have := h.ma j (by have := h.m9; omega)
    rw [mAt_nat hj] at this
    exact ⟨_, this⟩
  refine ⟨⟨by rw [h.n]; decide, by omega, by rw [h.m9]; decide, by have := h.o5; omega, fun c hc => ?_, fun m hx => ?_, fun m hx => ?_, fun o ho => ?_⟩, ⟨by omega, by rw [h.m9]; decide, h.o1⟩⟩
  · rcases tc.bind hc with e | ⟨S, e⟩
    · rw [e]; decide
    · rw [e]; have := selS_len S 6; omega
  · obtain ⟨a, h1⟩ := hm m hx
    rw [h1.2.2.1.len]; decide
  · obtain ⟨a, -, -, -, l, e, h4, -, -, h7⟩ := hm m hx
    rw [h4, flatI_len, List.length_append, List.length_singleton]; omega
  · have hp := h.obj ho
    unfold objP at hp
    have hs2 := of_decide_eq_true (Bool.and_eq_true _ _ ▸ hp).1
    omega
set_option maxHeartbeats 4000000
def nsL : List Int := [-1, 0, 1, 2, 3, 4, 6, 9, 22, 62, 63, 1073741824]
theorem nsL_64 {i : Nat} (hi : i < 12) : ∃ x : Int, (nsL.map (AV.int .i64))[i]? = some (.int .i64 x) ∧ I64 x := by
  rcases (by omega : i = 0 ∨ i = 1 ∨ i = 2 ∨ i = 3 ∨ i = 4 ∨ i = 5 ∨ i = 6 ∨ i = 7 ∨ i = 8 ∨ i = 9 ∨ i = 10 ∨ i = 11) with rfl | rfl | rfl | rfl | rfl | rfl | rfl | rfl | rfl | rfl | rfl | rfl <;> exact ⟨_, rfl, by simp [I64]⟩
def unZ : UUnit := ⟨[], [], [⟨0, 0, [], []⟩], [⟨0, []⟩], 0⟩
theorem c_UnitNumbers (H : AHeap) : CW MN 3 [] H fun w H' => w = .bool true ∧ Sm H H' := by
  refine CW_of (fn := af3) rfl ?_
  dsimp only [af3, qm, q, qG, qn, qi, qb, qB, qk, qc, qo, qg, qv, qr]
  simp -implicitDefEqProofs only [go_sem]
  refine WP_mono (Q := fun ex fr H' => ex = .exit 0 ∧ Sm H H') ?_ (WP_loop (fun m fr H' => ∃ k : Nat, m = 40 - k ∧ k ≤ 40 ∧ fr.get 1 = some (.int .i64 (k : Int)) ∧ Sm H H') 40 ?_ ?_)
  rotate_left
  · refine ⟨0, rfl, by omega, ?_⟩
    simp -implicitDefEqProofs only [go_sem]
    exact Chg.refl H
  · rintro m fr K ⟨k, hm, hk, g1, sK⟩
    by_cases hlt : (k : Int) < 40
    rotate_left
    · simp -implicitDefEqProofs only [g1, hlt, Bool.false_eq_true, go_sem]
      exact sK
    simp -implicitDefEqProofs only [g1, hlt, go_sem]
    refine CW.mono (c_tape K (k := k) (by omega)) ?_
    rintro v K1 ⟨l, hl, s1⟩
    obtain ⟨la, ls, lk, rfl, -⟩ := hl.shape
    simp -implicitDefEqProofs only [go_sem]
    refine CW.mono (c_unitOf hl) ?_
    rintro _ K2 ⟨u, cu, rfl, hu, tq, s2⟩
    obtain ⟨a1, z1, k1, a2, z2, k2, a3, z3, k3, a4, z4, k4, K3, rfl, e1, s3, n1, bw⟩ := BoxW.of hu
    obtain ⟨smU, geU⟩ := tq.sm
    obtain ⟨d5, -⟩ := bw.lds
    simp -implicitDefEqProofs only [e1, d5, go_sem]
    refine CW.mono (c_unitRight bw.u) ?_
    rintro _ K4 ⟨rfl, s4⟩
    have bw := bw.sm s4
    have sK4 : Sm H K4 := ((((sK.trans s1).trans s2).trans s3).trans s4)
    have hwk : IntKind.i64.wrap ((k : Int) + 1) = ((k + 1 : Nat) : Int) := by rw [wrap64 (by omega) (by omega)]; omega
    simp -implicitDefEqProofs only [tq.right, g1, Int.reduceBNe, Bool.false_eq_true, go_sem]
    refine WP_mono (Q := fun ex fr H' => ex = .exit 2 ∧ fr.get 1 = some (.int .i64 (k : Int)) ∧ Sm K4 H') ?_ (WP_loop (fun m fr H' => ∃ w : Nat, m = 14 - w ∧ w ≤ 14 ∧ fr.get 1 = some (.int .i64 (k : Int)) ∧ fr.get 2 = some (.ptr (some (K2.next, 0))) ∧ fr.get 3 = some (.int .i64 (w : Int)) ∧ Sm K4 H') 14 ?_ ?_)
    rotate_left
    · refine ⟨0, rfl, by omega, ?_⟩
      simp -implicitDefEqProofs only [g1, go_sem]
      first | exact Chg.refl K4 | exact ⟨rfl, Chg.refl K4⟩
    · rintro m fr L ⟨w, hm, hw, g1, g2, g3, sL⟩
      by_cases hlt : (w : Int) < 14
      rotate_left
      · simp -implicitDefEqProofs only [g1, g2, g3, hlt, Bool.false_eq_true, go_sem]
        exact sL
      have sN := Chg.newRow L (nsL.map (AV.int .i64))
      have rN := Rd.newRow L (nsL.map (AV.int .i64))
      have eN : L.newRow [.int .i64 (-1), .int .i64 0, .int .i64 1, .int .i64 2, .int .i64 3, .int .i64 4, .int .i64 6, .int .i64 9, .int .i64 22, .int .i64 62, .int .i64 63, .int .i64 1073741824] = L.newRow (nsL.map (AV.int .i64)) := rfl
      generalize L.newRow (nsL.map (AV.int .i64)) = L1 at sN rN eN
      have hww : IntKind.i64.wrap ((w : Int) + 1) = ((w + 1 : Nat) : Int) := by rw [wrap64 (by omega) (by omega)]; omega
      have hkw : IntKind.i64.wrap ((k : Int) + (w : Int)) = ((k + w : Nat) : Int) := by rw [wrap64 (by omega) (by omega)]; omega
      have hk7 : (k : Int).tmod 7 = ((k % 7 : Nat) : Int) := by rw [Int.tmod_eq_emod_of_nonneg (by omega)]; omega
      have hk71 : IntKind.i64.wrap (((k % 7 : Nat) : Int) - 1) = ((k % 7 : Nat) : Int) - 1 := wrap64 (by omega) (by omega)
      simp -implicitDefEqProofs only [g1, g2, g3, hlt, eN, go_sem]
      refine WP_mono (Q := fun ex fr H' => ex = .exit 4 ∧ fr.get 1 = some (.int .i64 (k : Int)) ∧ fr.get 2 = some (.ptr (some (K2.next, 0))) ∧ fr.get 3 = some (.int .i64 (w : Int)) ∧ Sm L1 H') ?_ (WP_loop (fun m fr H' => ∃ i : Nat, m = 12 - i ∧ i ≤ 12 ∧ fr.get 1 = some (.int .i64 (k : Int)) ∧ fr.get 2 = some (.ptr (some (K2.next, 0))) ∧ fr.get 3 = some (.int .i64 (w : Int)) ∧ fr.get 22 = some (.slice (some (L.next, 0)) 1 12 true) ∧ fr.get 23 = some (.int .i64 12) ∧ fr.get 24 = some (.int .i64 (i : Int)) ∧ Sm L1 H') 12 ?_ ?_)
      rotate_left
      · refine ⟨0, rfl, by omega, ?_⟩
        simp -implicitDefEqProofs only [g1, g2, g3, go_sem]
        exact Chg.refl L1
      · rintro m fr M ⟨i, hm, hi, g1, g2, g3, g22, g23, g24, sM⟩
        by_cases hlt : (i : Int) < 12
        rotate_left
        · simp -implicitDefEqProofs only [g1, g2, g3, g22, g23, g24, hlt, Bool.false_eq_true, go_sem]
          exact sM
        obtain ⟨x, hx, hx64⟩ := nsL_64 (i := i) (by omega)
        have lx := (rN.keep sM.1 (sM.gt rN.1)).one hx
        rw [Nat.zero_add] at lx
        have i0 : (0 : Int) ≤ (i : Int) := by omega
        have hwi : IntKind.i64.wrap ((i : Int) + 1) = ((i + 1 : Nat) : Int) := by rw [wrap64 (by omega) (by omega)]; omega
        have bM := bw.sm ((sL.trans sN).trans sM)
        obtain ⟨d5M, -⟩ := bM.lds
        simp -implicitDefEqProofs only [g1, g2, g3, g22, g23, g24, hlt, i0, lx, d5M, hkw, go_sem]
        refine CW.mono (c_oddUnit bM.u smU geU (by omega) (by omega) (w : Int) ((k + w : Nat) : Int) x (by unfold I64; omega) hx64) ?_
        rintro _ M1 ⟨o1, co1, rfl, ho1, so1, go1, t1⟩
        simp -implicitDefEqProofs only [hk7, hk71, g1, g2, g3, go_sem]
        refine CW.mono (c_lsame ho1 (so1.bnd (by omega)) (by unfold I64; omega) _) ?_
        rintro _ M2 ⟨rfl, t2⟩
        simp -implicitDefEqProofs only [g1, g2, g3, g22, g23, g24, hwi, Bool.false_eq_true, go_sem]
        exact ⟨12 - (i + 1), by omega, i + 1, rfl, by omega, rfl, (sM.trans t1).trans t2⟩
      rintro ex fr M ⟨rfl, g1, g2, g3, sM⟩
      simp -implicitDefEqProofs only [g1, g2, g3, hww, go_sem]
      exact ⟨14 - (w + 1), by omega, w + 1, rfl, by omega, rfl, (sL.trans sN).trans sM⟩
    rintro ex fr L ⟨rfl, g1, sL⟩
    simp -implicitDefEqProofs only [g1, hwk, go_sem]
    exact ⟨40 - (k + 1), by omega, k + 1, rfl, by omega, rfl, sK4.trans sL⟩
  rintro ex fr K ⟨rfl, sK⟩
  have bE : BndU unE := by
    refine ⟨by decide, by decide, by decide, by decide, ?_, ?_, ?_, ?_⟩ <;> decide
  have bZ : BndU unZ := by
    refine ⟨by decide, by decide, by decide, by decide, ?_, ?_, ?_, ?_⟩ <;> decide
  simp -implicitDefEqProofs only [go_sem]
  refine CW.mono (c_lsame (unE_e K) bE (by simp [I64]) _) ?_
  rintro _ K1 ⟨rfl, t1⟩
  have s2 := Chg.newRow K1 [.int .i64 0, .int .i64 0, .slice none 1 0 true, .slice none 1 0 true]
  have r2 := Rd.newRow K1 [.int .i64 0, .int .i64 0, .slice none 1 0 true, .slice none 1 0 true]
  have e2 : K1.newRow ([[.int .i64 0, .int .i64 0, .slice none 1 0 true, .slice none 1 0 true]] : List (List AV)).flatten = K1.newRow [.int .i64 0, .int .i64 0, .slice none 1 0 true, .slice none 1 0 true] := rfl
  have n2 : (K1.newRow [.int .i64 0, .int .i64 0, .slice none 1 0 true, .slice none 1 0 true]).next = K1.next + 1 := rfl
  generalize eK2 : K1.newRow [.int .i64 0, .int .i64 0, .slice none 1 0 true, .slice none 1 0 true] = K2 at s2 r2 e2 n2
  have s3 := Chg.newRow K2 [.int .i64 0, .slice none 1 0 true]
  have r3 := Rd.newRow K2 [.int .i64 0, .slice none 1 0 true]
  have n3 : (K2.newRow [.int .i64 0, .slice none 1 0 true]).next = K2.next + 1 := rfl
  generalize eK3 : K2.newRow [.int .i64 0, .slice none 1 0 true] = K3 at s3 r3 n3
  have uZ : UnE K3 unZ [.slice none 1 0 true, .slice none 1 0 true, .slice (some (K1.next, 0)) 4 1 true, .slice (some (K2.next, 0)) 2 1 true, .int .i64 0] := by
    have r2' := r2.keep s3.1 (s3.gt r2.1)
    refine ⟨_, _, _, _, rfl, by simp [unZ, I64], nilE _, nilE _, ⟨_, _, _, rfl, .inr rfl, by decide, fun _ => ⟨_, 0, _, rfl, r2', rfl, fun j hj => ?_⟩⟩, ⟨_, _, _, rfl, .inr rfl, by decide, fun _ => ⟨_, 0, _, rfl, r3, rfl, fun j hj => ?_⟩⟩⟩
    · obtain rfl : j = 0 := by have : j < 1 := hj; omega
      exact ⟨_, _, rfl, by simp [unZ, I64], by simp [unZ, I64], nilE _, nilE _⟩
    · obtain rfl : j = 0 := by have : j < 1 := hj; omega
      exact ⟨_, rfl, by simp [unZ, I64], nilE _⟩
  simp -implicitDefEqProofs only [Int.one_mul, e2, eK2, eK3, List.replicate, Int.toNat_one, Int.reduceToNat, List.flatten_cons, List.flatten_nil, go_sem]
  refine CW.mono (c_lsame uZ bZ (i := -9223372036854775808) (by simp [I64]) _) ?_
  rintro _ K4 ⟨rfl, t4⟩
  simp -implicitDefEqProofs only [go_sem]
  refine CW.mono (c_known15 K4) ?_
  rintro _ K5 ⟨rfl, t5⟩
  simp -implicitDefEqProofs only [go_sem]
  exact (((((sK.trans t1).trans s2).trans s3).trans t4).trans t5)
set_option maxHeartbeats 4000000
theorem CpR.unK {H0 H' G : AHeap} {u : UUnit} {cu : List AV} (h : CpR H0 H' u cu) (k : KpM H0.next H' G) : UnE G u cu := by
  obtain ⟨lo, H1, H2, H3, v1, v2, v3, v4, rfl, hm, l0, l1, s, o1, k1, g2, l2, k23, g3, k3, g4, m2, m3, m4⟩ := h
  have q1 := k1.1; have q2 := k23.1; have q3 := k3.1
  exact ⟨v1, v2, v3, v4, rfl, hm, (o1.kp (Nat.le_refl _) (k1.trans (k.up (by omega)))).slE, (g2.kp ClO.mono (Nat.le_refl _) ((k23.trans k3).trans (k.up (by omega)))).slE ClO.cl m2, (g3.kp MeO.mono (m := H1.next) (by omega) (k3.trans (k.up (by omega)))).slE MeO.me m3, (g4.kp ObO.mono (m := H0.next) (by omega) k).slE ObO.ob m4⟩
theorem Arr.eq {H : AHeap} {x : Nat} {cs cs' : List AV} {P P' : Nat → Prop} (h : Arr H x cs P) (h' : Arr H x cs' P') : cs = cs' := by
  obtain ⟨-, c, par, hc, hf, -⟩ := h
  obtain ⟨-, c', par', hc', hf', -⟩ := h'
  rw [hc] at hc'
  injection hc' with e1 e2 e3 e4
  subst e1
  refine List.ext_getElem e2 fun j h1 h2 => ?_
  have a1 := hf j cs[j] (List.getElem?_eq_getElem h1)
  have a2 := hf' j cs'[j] (List.getElem?_eq_getElem h2)
  rw [a1] at a2
  exact Option.some.inj a2
theorem FA.st2 {H : AHeap} {x n i : Nat} {f : Nat → AV} (h : FA H x n f fun _ => False) (hi : i + 2 ≤ n) (a b : AV) : ∃ H', storeA H x i [a, b] = some H' ∧ H'.next = H.next ∧ FA H' x n (fun j => if j = i then a else if j = i + 1 then b else f j) (fun _ => False) ∧ ∀ y, y ≠ x → H'.get y = H.get y := by
  obtain ⟨hx, c, par, hc, hf, hp⟩ := h
  refine ⟨(killAll H par).put x (.cells (ofL [a, b] i c) n true []), ?_, by rw [next_put, next_killAll], ⟨by rw [next_put, next_killAll]; exact hx, ofL [a, b] i c, [], by rw [get_put, if_pos rfl], fun j hj => ?_, by simp⟩, fun y hy => ?_⟩
  · unfold storeA
    rw [hc]
    have : (i + [a, b].length).ble n = true := Nat.ble_eq_true_of_le (by simp; omega)
    simp only [this, cond_true]
  · rw [get_ofL]
    by_cases h1 : j = i
    · subst h1
      rw [if_pos (by simp)]; simp
    · by_cases h2 : j = i + 1
      · subst h2
        rw [if_pos (by simp)]
        show _ = some (if i + 1 = i then a else if i + 1 = i + 1 then b else f (i + 1))
        rw [if_neg (by omega), if_pos rfl, show i + 1 - i = 1 by omega]; rfl
      · show _ = some (if j = i then a else if j = i + 1 then b else f j)
        rw [if_neg (by simp; omega), if_neg h1, if_neg h2]
        exact hf j hj
  · rw [get_put, if_neg (Ne.symm hy), get_killAll _ _ _ (fun e => hp y e)]
end Go.Proofs.YtbbjlbdmjikhbaaGreatDoor.AA
