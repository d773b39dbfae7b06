/- The six laws. -/
import Derived.Test.YtbbjlbdmjikhbaaGreatDoorKUniG
set_option linter.unusedSimpArgs false
set_option linter.unusedVariables false
namespace Go.Proofs.YtbbjlbdmjikhbaaGreatDoor.AA
open Go Go.RowKit
attribute [local go_sem ↓] WP_seq WP_skip WP_region WP_dregion WP_cond WP_block WP_exit WP_ret OW_nil OW_cons DW_nil DW_cons XW_call reduceIte OW_guard DW_guard
attribute [local go_sem] XW exA KO_eq OptK_some EvK_some GW2_true GW2_false KS_normal KS_ret KS_exit KB_normal KB_ret KB_exit CP2_bool RP_ret putA_some putA_none ev_t ev_c evs evo wantA initA resA Tr.get_set vl chkOk cond_true cond_false Nat.add_zero Nat.mul_one Nat.one_mul Nat.zero_add Nat.zero_mul aggOf pInt binA unA intA beq_true beq_false Bool.not_true Bool.not_false Bool.not_eq_true and_self and_true true_and reduceIte Nat.reduceEqDiff Nat.succ_ne_self Nat.reduceAdd Nat.reduceMul Nat.reduceSub Nat.reduceBEq Nat.reduceLT Nat.reduceLeDiff Int.cast_ofNat_Int Int.reduceToNat Int.reduceLT Int.reduceLE Int.reduceGE Int.reduceGT Int.reduceEq Int.reduceNe Int.reduceAdd Int.reduceSub Int.reduceNeg decide_true decide_false Int.toNat_natCast reduceCtorEq List.nil_append List.cons_append AV.boxy AV.cells List.length_cons List.length_nil Nat.beq_refl AOp.cl KDW_0 KDW_1 KDW_2 OWskip_eq DWskip_eq fillA setAt DChk DAt stepA ble_dec beq_dec Bool.and_self Bool.and_true Bool.true_and Bool.and_false Bool.false_and List.take_succ_cons List.take_zero List.drop_succ_cons List.drop_zero List.take_nil List.drop_nil List.append_nil eqAV eqAVL BEq.rfl sameS Option.map Option.isNone wrap64 gt_iff_lt ge_iff_le Int.lt_irrefl Int.le_refl
set_option maxRecDepth 100000
set_option maxHeartbeats 4000000
attribute [local irreducible] Tr.set
theorem tape_row {H : AHeap} {l : List Int} {v : AV} (h : SlE InE 1 H l [v]) : TapeR (H.newRow [v, .int .i64 0]) H.next := by
  obtain ⟨a, s0, cl, rfl, -⟩ := h.shape
  exact ⟨H, l, a, s0, cl, 0, Nat.le_refl _, Chg.newRow H _, h, Nat.zero_le _, Arr.newRow H _ _⟩
/-- A program off a tape that comes in. -/
theorem c_unitOf {H : AHeap} {l : List Int} {v : AV} (h : SlE InE 1 H l [v]) : CW MN 10 [.ptr (some (H.next, 0))] (H.newRow [v, .int .i64 0]) fun w H' => ∃ u cu, w = .agg cu ∧ UnE H' u cu ∧ TQ u ∧ Sm H H' :=
  (c_Unit (tape_row h)).mono fun w H' ⟨u, cu, h1, h2, h3, h4, h5⟩ => ⟨u, cu, h1, h2, h3.tq, Sm.of (by rw [show (H.newRow [v, .int .i64 0]).next = H.next + 1 from rfl] at h4; omega) fun z hz => by
    rw [h5 z (by rw [show (H.newRow [v, .int .i64 0]).next = H.next + 1 from rfl]; omega) (by omega), (Chg.newRow H _).gt hz]⟩
theorem TQ.main {u : UUnit} (h : TQ u) (k : Int) : unitP ⟨u.names, u.classes, u.methods, u.objects, k⟩ = if mainP ⟨u.names, u.classes, u.methods, u.objects, k⟩ = false then 15 else 0 := by
  have hr := h.right
  obtain ⟨l, S, tc⟩ := h.c
  have e1 : sizesP ⟨u.names, u.classes, u.methods, u.objects, k⟩ = true := decide_eq_true ⟨by rw [h.n]; decide, by rw [h.m9]; decide, by rw [h.m9]; decide, h.o1, by have := h.o5; show u.objects.length ≤ 40; omega⟩
  have e2 : namesP u.names = true := by rw [h.n]; exact names_ok
  have e3 : shapeP u.classes u.names.length u.methods.length = 0 := by rw [h.n, h.m9]; exact tc.shape
  have e4 : u.objects.all (objP ⟨u.names, u.classes, u.methods, u.objects, k⟩) = true := List.all_eq_true.2 fun o ho => h.obj ho
  have e5 : methodsP ⟨u.names, u.classes, u.methods, u.objects, k⟩ = 0 := h.meths
  unfold unitP
  dsimp only
  rw [e1, e2, e3, e4, e5]
  rfl
/-- The program, in a block of its own, to be written. -/
structure BoxW (H : AHeap) (u : UUnit) (b : Nat) (a1 : Option (Nat × Nat)) (s1 : Nat) (k1 : Bool) (a2 : Option (Nat × Nat)) (s2 : Nat) (k2 : Bool) (a3 : Option (Nat × Nat)) (s3 : Nat) (k3 : Bool) (a4 : Option (Nat × Nat)) (s4 : Nat) (k4 : Bool) : Prop where
  a : Arr H b [.slice a1 s1 u.names.length k1, .slice a2 s2 u.classes.length k2, .slice a3 s3 u.methods.length k3, .slice a4 s4 u.objects.length k4, .int .i64 u.main] fun _ => False
  u : UnE H u [.slice a1 s1 u.names.length k1, .slice a2 s2 u.classes.length k2, .slice a3 s3 u.methods.length k3, .slice a4 s4 u.objects.length k4, .int .i64 u.main]
section
variable {H : AHeap} {u : UUnit} {b : Nat} {a1 : Option (Nat × Nat)} {s1 : Nat} {k1 : Bool} {a2 : Option (Nat × Nat)} {s2 : Nat} {k2 : Bool} {a3 : Option (Nat × Nat)} {s3 : Nat} {k3 : Bool} {a4 : Option (Nat × Nat)} {s4 : Nat} {k4 : Bool}
theorem BoxW.sm {H' : AHeap} (h : BoxW H u b a1 s1 k1 a2 s2 k2 a3 s3 k3 a4 s4 k4) (s : Sm H H') : BoxW H' u b a1 s1 k1 a2 s2 k2 a3 s3 k3 a4 s4 k4 := ⟨h.a.sm s, MonoE.un _ _ _ _ h.u s⟩
theorem BoxW.lds (h : BoxW H u b a1 s1 k1 a2 s2 k2 a3 s3 k3 a4 s4 k4) : loadA H b 0 5 = some [.slice a1 s1 u.names.length k1, .slice a2 s2 u.classes.length k2, .slice a3 s3 u.methods.length k3, .slice a4 s4 u.objects.length k4, .int .i64 u.main] ∧ loadA H b 0 1 = some [.slice a1 s1 u.names.length k1] ∧ loadA H b 1 1 = some [.slice a2 s2 u.classes.length k2] ∧ loadA H b 2 1 = some [.slice a3 s3 u.methods.length k3] ∧ loadA H b 3 1 = some [.slice a4 s4 u.objects.length k4] ∧ loadA H b 4 1 = some [.int .i64 u.main] := by
  have r := h.a.rd
  have r0 := r.one (j := 0) rfl
  have r1 := r.one (j := 1) rfl
  have r2 := r.one (j := 2) rfl
  have r3 := r.one (j := 3) rfl
  have r4 := r.one (j := 4) rfl
  rw [Nat.zero_add] at r0 r1 r2 r3 r4
  exact ⟨r.load rfl, r0, r1, r2, r3, r4⟩
end
/-- Laid into a fresh block. -/
theorem BoxW.of {H : AHeap} {u : UUnit} {cu : List AV} (h : UnE H u cu) : ∃ a1 s1 k1 a2 s2 k2 a3 s3 k3 a4 s4 k4 H', cu = [.slice a1 s1 u.names.length k1, .slice a2 s2 u.classes.length k2, .slice a3 s3 u.methods.length k3, .slice a4 s4 u.objects.length k4, .int .i64 u.main] ∧ storeA (H.newRow [.slice none 1 0 true, .slice none 1 0 true, .slice none 1 0 true, .slice none 1 0 true, .int .i64 0]) H.next 0 [.slice a1 s1 u.names.length k1, .slice a2 s2 u.classes.length k2, .slice a3 s3 u.methods.length k3, .slice a4 s4 u.objects.length k4, .int .i64 u.main] = some H' ∧ Sm H H' ∧ H'.next = H.next + 1 ∧ BoxW H' u H.next a1 s1 k1 a2 s2 k2 a3 s3 k3 a4 s4 k4 := by
  obtain ⟨v1, v2, v3, v4, rfl, h0, q1, q2, q3, q4⟩ := id h
  obtain ⟨a1, s1, k1, rfl, -⟩ := q1.shape
  obtain ⟨a2, s2, k2, rfl, -⟩ := q2.shape
  obtain ⟨a3, s3, k3, rfl, -⟩ := q3.shape
  obtain ⟨a4, s4, k4, rfl, -⟩ := q4.shape
  obtain ⟨H', e, n, s, a⟩ := store_own H [.slice none 1 0 true, .slice none 1 0 true, .slice none 1 0 true, .slice none 1 0 true, .int .i64 0] [.slice a1 s1 u.names.length k1, .slice a2 s2 u.classes.length k2, .slice a3 s3 u.methods.length k3, .slice a4 s4 u.objects.length k4, .int .i64 u.main] rfl
  exact ⟨a1, s1, k1, a2, s2, k2, a3, s3, k3, a4, s4, k4, H', rfl, e, s, n, a, MonoE.un _ _ _ _ h s⟩
set_option maxHeartbeats 4000000
set_option maxHeartbeats 4000000
theorem fit_le (n : Int) : 0 ≤ fitP n ∧ fitP n ≤ 64 := by
  unfold fitP
  repeat' split
  all_goals omega
theorem words_le : ∀ (l : List UObj) (a : Int), 0 ≤ a → a + 64 * (l.length : Int) ≤ 1000000 → 0 ≤ l.foldl (fun a o => IntKind.i64.wrap (a + fitP (ofP o.fields.length))) a ∧ l.foldl (fun a o => IntKind.i64.wrap (a + fitP (ofP o.fields.length))) a ≤ a + 64 * (l.length : Int)
  | [], a, h, _ => by simp; exact h
  | o :: l, a, h, h2 => by
    have hf := fit_le (ofP o.fields.length)
    rw [List.length_cons] at h2
    have hw : IntKind.i64.wrap (a + fitP (ofP o.fields.length)) = a + fitP (ofP o.fields.length) := wrap64 (by omega) (by omega)
    rw [List.foldl_cons, hw, List.length_cons]
    have := words_le l (a + fitP (ofP o.fields.length)) (by omega) (by omega)
    omega
def moreU (u : UUnit) (k : Nat) : UUnit := ⟨u.names, u.classes, u.methods, u.objects ++ [⟨1, List.replicate k (0, 0)⟩], u.main⟩
theorem TQ.words {u : UUnit} (h : TQ u) (k : Nat) : 0 ≤ wordsP u ∧ wordsP u ≤ 1000 ∧ wordsP (moreU u k) = wordsP u + fitP (ofP k) := by
  have h1 := words_le u.objects 0 (by omega) (by have := h.o5; omega)
  have h5 := h.o5
  have hf := fit_le (ofP k)
  have hw : wordsP u = u.objects.foldl (fun a o => IntKind.i64.wrap (a + fitP (ofP o.fields.length))) 0 := rfl
  refine ⟨by rw [hw]; exact h1.1, by rw [hw]; omega, ?_⟩
  show wordsL (u.objects ++ [⟨1, List.replicate k (0, 0)⟩]) = _
  unfold wordsL
  rw [List.foldl_append, hw]
  simp only [List.foldl_cons, List.foldl_nil, List.length_replicate]
  exact wrap64 (by omega) (by omega)
theorem TQ.more {u : UUnit} (h : TQ u) {k : Nat} (hk : k ≤ 62) : unitP (moreU u k) = 0 := by
  obtain ⟨l, S, tc⟩ := h.c
  have n3 := tc.f.n3; have hn := tc.n
  have hl : (moreU u k).objects.length = u.objects.length + 1 := by simp [moreU]
  have e1 : sizesP (moreU u k) = true := decide_eq_true ⟨by show u.names.length ≤ 48; rw [h.n]; decide, by show 1 ≤ u.methods.length; rw [h.m9]; decide, by show u.methods.length ≤ 32; rw [h.m9]; decide, by omega, by have := h.o5; omega⟩
  have e2 : namesP (moreU u k).names = true := by show namesP u.names = true; rw [h.n]; exact names_ok
  have e3 : shapeP (moreU u k).classes (moreU u k).names.length (moreU u k).methods.length = 0 := by show shapeP u.classes u.names.length u.methods.length = 0; rw [h.n, h.m9]; exact tc.shape
  have e5 : methodsP (moreU u k) = 0 := h.meths
  have e6 : mainP (moreU u k) = true := by
    show (decide (0 ≤ u.main ∧ u.main < u.methods.length) && decide ((mAt u u.main.toNat).args = 0)) = true
    rw [h.m, h.m9, show (6 : Int).toNat = 6 from rfl, h.argsQ (by omega)]; rfl
  have e4 : (moreU u k).objects.all (objP (moreU u k)) = true := List.all_eq_true.2 fun o ho => by
    rcases List.mem_append.1 (show o ∈ u.objects ++ [⟨1, List.replicate k (0, 0)⟩] from ho) with ho | ho
    · have hp := h.obj ho
      unfold objP at hp ⊢
      have hp' := Bool.and_eq_true _ _ ▸ hp
      have h1 : decide (1 ≤ o.cls ∧ o.cls < (moreU u k).classes.length ∧ o.fields.length ≤ 62 ∧ (1 < o.cls → (o.fields.length : Int) = (clAt (moreU u k).classes o.cls).fields)) = true := hp'.1
      rw [h1, Bool.true_and]
      refine List.all_eq_true.2 fun v hv => ?_
      have hv' := List.all_eq_true.1 hp'.2 v hv
      unfold valP at hv' ⊢
      by_cases q1 : v.1 = 0 ∨ v.1 = 1 ∨ v.1 = 2
      · rw [if_pos q1] at hv' ⊢; exact hv'
      rw [if_neg q1] at hv' ⊢
      by_cases q2 : v.1 = 3
      · rw [if_pos q2] at hv' ⊢; exact hv'
      rw [if_neg q2] at hv' ⊢
      by_cases q3 : v.1 = 4
      · rw [if_pos q3] at hv' ⊢
        have := of_decide_eq_true hv'
        exact decide_eq_true (by omega)
      rw [if_neg q3] at hv'
      cases hv'
    · obtain rfl : o = ⟨1, List.replicate k (0, 0)⟩ := by simpa using ho
      unfold objP
      rw [decide_eq_true, Bool.true_and]
      · refine List.all_eq_true.2 fun v hv => ?_
        rw [(List.mem_replicate.1 hv).2]; rfl
      · refine ⟨by dsimp only; omega, ?_, by rw [List.length_replicate]; exact hk, fun h => absurd h (by dsimp only; omega)⟩
        show (1 : Int) < (u.classes.length : Int)
        omega
  unfold unitP
  rw [e1, e2, e3, e4, e5, e6]
  rfl
set_option maxHeartbeats 4000000
theorem TQ.sm {u : UUnit} (h : TQ u) : SmU 64 u ∧ GeU u := by
  obtain ⟨l, S, tc⟩ := h.c
  have n3 := tc.f.n3; have n5 := tc.f.n5; have hn := tc.n
  have hm : ∀ m, m ∈ u.methods → ∃ a, methOk u.classes.length a m := fun m hm => by
    obtain ⟨j, hj, rfl⟩ := List.mem_iff_getElem.1 hm
    have := h.ma j (by have := h.m9; omega)
    rw [mAt_nat hj] at this
    exact ⟨_, this⟩
  refine ⟨⟨by rw [h.n]; decide, by omega, by rw [h.m9]; decide, by have := h.o5; omega, fun c hc => ?_, fun m hx => ?_, fun m hx => ?_, fun o ho => ?_⟩, ⟨by omega, by rw [h.m9]; decide, h.o1⟩⟩
  · rcases tc.bind hc with e | ⟨S, e⟩
    · rw [e]; decide
    · rw [e]; have := selS_len S 6; omega
  · obtain ⟨a, h1⟩ := hm m hx
    rw [h1.2.2.1.len]; decide
  · obtain ⟨a, -, -, -, l, e, h4, -, -, h7⟩ := hm m hx
    rw [h4, flatI_len, List.length_append, List.length_singleton]; omega
  · have hp := h.obj ho
    unfold objP at hp
    have hs2 := of_decide_eq_true (Bool.and_eq_true _ _ ▸ hp).1
    omega
set_option maxHeartbeats 4000000
set_option maxHeartbeats 4000000
/-- A program whose names are not these is not this one. -/
theorem c_SameN {H : AHeap} {a : UUnit} {ca : List AV} (ha : UnE H a ca) {w1 w2 w3 w4 w5 : AV} {ys : List (List Nat)} (hb : SlE StE 1 H ys [w1]) (hne : a.names ≠ ys) : CW MN 16 [.agg ca, .agg [w1, w2, w3, w4, w5]] H fun w H' => w = .bool false ∧ Sm H H' := by
  refine CW_of (fn := af16) rfl ?_
  unfold af16
  obtain ⟨v1, v2, v3, v4, ba, rfl⟩ := BoxU.of ha
  have s1 := Chg.newRow H [v1, v2, v3, v4, .int .i64 a.main]
  generalize eH1 : H.newRow [v1, v2, v3, v4, .int .i64 a.main] = H1 at ba s1
  have s2 := Chg.newRow H1 [w1, w2, w3, w4, w5]
  have r2 := (Rd.newRow H1 [w1, w2, w3, w4, w5]).one (j := 0) rfl
  rw [Nat.zero_add] at r2
  generalize eH2 : H1.newRow [w1, w2, w3, w4, w5] = H2 at s2 r2
  have ba := ba.sm s2
  have a0 := ba.l0
  have s12 := s1.trans s2
  simp -implicitDefEqProofs only [eH1, eH2, a0, r2, go_sem]
  refine CW.mono (c_eqSt (f := 41) rfl ba.names (MonoE.enc.sl _ _ _ _ hb s12)) ?_
  rintro _ H3 ⟨rfl, rfl⟩
  have e : decide (a.names = ys) = false := decide_eq_false hne
  simp -implicitDefEqProofs only [e, Bool.false_eq_true, go_sem]
  exact s12
theorem CpR.unK {H0 H' G : AHeap} {u : UUnit} {cu : List AV} (h : CpR H0 H' u cu) (k : KpM H0.next H' G) : UnE G u cu := by
  obtain ⟨lo, H1, H2, H3, v1, v2, v3, v4, rfl, hm, l0, l1, s, o1, k1, g2, l2, k23, g3, k3, g4, m2, m3, m4⟩ := h
  have q1 := k1.1; have q2 := k23.1; have q3 := k3.1
  exact ⟨v1, v2, v3, v4, rfl, hm, (o1.kp (Nat.le_refl _) (k1.trans (k.up (by omega)))).slE, (g2.kp ClO.mono (Nat.le_refl _) ((k23.trans k3).trans (k.up (by omega)))).slE ClO.cl m2, (g3.kp MeO.mono (m := H1.next) (by omega) (k3.trans (k.up (by omega)))).slE MeO.me m3, (g4.kp ObO.mono (m := H0.next) (by omega) k).slE ObO.ob m4⟩
theorem Arr.eq {H : AHeap} {x : Nat} {cs cs' : List AV} {P P' : Nat → Prop} (h : Arr H x cs P) (h' : Arr H x cs' P') : cs = cs' := by
  obtain ⟨-, c, par, hc, hf, -⟩ := h
  obtain ⟨-, c', par', hc', hf', -⟩ := h'
  rw [hc] at hc'
  injection hc' with e1 e2 e3 e4
  subst e1
  refine List.ext_getElem e2 fun j h1 h2 => ?_
  have a1 := hf j cs[j] (List.getElem?_eq_getElem h1)
  have a2 := hf' j cs'[j] (List.getElem?_eq_getElem h2)
  rw [a1] at a2
  exact Option.some.inj a2
theorem FA.ofF {H : AHeap} {x : Nat} {cs : List AV} {P : Nat → Prop} {Q : AV → Prop} (h : Arr H x cs P) (hq : ∀ i (hi : i < cs.length), Q cs[i]) : ∃ f, FA H x cs.length f P ∧ ∀ i, i < cs.length → Q (f i) :=
  ⟨_, FA.of h, fun i hi => by
    show Q (cs.getD i (.bool false))
    rw [List.getD_eq_getElem?_getD, List.getElem?_eq_getElem hi]
    exact hq i hi⟩
theorem FA.st2 {H : AHeap} {x n i : Nat} {f : Nat → AV} (h : FA H x n f fun _ => False) (hi : i + 2 ≤ n) (a b : AV) : ∃ H', storeA H x i [a, b] = some H' ∧ H'.next = H.next ∧ FA H' x n (fun j => if j = i then a else if j = i + 1 then b else f j) (fun _ => False) ∧ ∀ y, y ≠ x → H'.get y = H.get y := by
  obtain ⟨hx, c, par, hc, hf, hp⟩ := h
  refine ⟨(killAll H par).put x (.cells (ofL [a, b] i c) n true []), ?_, by rw [next_put, next_killAll], ⟨by rw [next_put, next_killAll]; exact hx, ofL [a, b] i c, [], by rw [get_put, if_pos rfl], fun j hj => ?_, by simp⟩, fun y hy => ?_⟩
  · unfold storeA
    rw [hc]
    have : (i + [a, b].length).ble n = true := Nat.ble_eq_true_of_le (by simp; omega)
    simp only [this, cond_true]
  · rw [get_ofL]
    by_cases h1 : j = i
    · subst h1
      rw [if_pos (by simp)]; simp
    · by_cases h2 : j = i + 1
      · subst h2
        rw [if_pos (by simp)]
        show _ = some (if i + 1 = i then a else if i + 1 = i + 1 then b else f (i + 1))
        rw [if_neg (by omega), if_pos rfl, show i + 1 - i = 1 by omega]; rfl
      · show _ = some (if j = i then a else if j = i + 1 then b else f j)
        rw [if_neg (by simp; omega), if_neg h1, if_neg h2]
        exact hf j hj
  · rw [get_put, if_neg (Ne.symm hy), get_killAll _ _ _ (fun e => hp y e)]
theorem cells_all {α : Type} {enc : α → List AV} {s : Nat} {xs : List α} {cs : List AV} {Q : AV → Prop} (hs : 0 < s) (hl : cs.length = xs.length * s) (hj : ∀ j (hj : j < xs.length), (cs.drop (j * s)).take s = enc xs[j]) (hQ : ∀ x a, a ∈ enc x → Q a) : ∀ i (hi : i < cs.length), Q cs[i] := fun i hi => by
  have hd := Nat.div_add_mod i s
  have hm := Nat.mod_lt i hs
  have hq : i / s < xs.length := Nat.div_lt_of_lt_mul (by rw [Nat.mul_comm, ← hl]; exact hi)
  have e := hj (i / s) hq
  refine hQ xs[i / s] _ ?_
  rw [← e]
  have e2 : ((cs.drop (i / s * s)).take s)[i % s]? = some cs[i] := by
    rw [List.getElem?_take, if_pos hm, List.getElem?_drop, Nat.mul_comm, hd, List.getElem?_eq_getElem hi]
  exact List.mem_of_getElem? e2
theorem c_UnitCopies {H : AHeap} {l : List Int} {v : AV} (h : SlE InE 1 H l [v]) {what at' n : Int} (hw64 : I64 what) : CW MN 6 [v, .int .i64 what, .int .i64 at', .int .i64 n] H fun w H' => w = .bool true ∧ Sm H H' := by
  refine CW_of (fn := af6) rfl ?_
  unfold af6
  obtain ⟨la, ls, lk, rfl, -⟩ := h.shape
  simp -implicitDefEqProofs only [go_sem]
  refine CW.mono (c_unitOf h) ?_
  rintro _ K0 ⟨u, cu, rfl, hu, tq, sK⟩
  obtain ⟨a1, s1, k1, a2, s2, k2, a3, s3, k3, a4, s4, k4, K1, rfl, e1, sm1, n1, bw⟩ := BoxW.of hu
  have hbn := bw.a.1
  have L1s := Chg.newRow K1 [.slice none 1 0 true, .slice none 1 0 true, .slice none 1 0 true, .slice none 1 0 true, .int .i64 0]
  have L1a := Arr.newRow K1 [.slice none 1 0 true, .slice none 1 0 true, .slice none 1 0 true, .slice none 1 0 true, .int .i64 0] fun _ => False
  have L1n : (K1.newRow [.slice none 1 0 true, .slice none 1 0 true, .slice none 1 0 true, .slice none 1 0 true, .int .i64 0]).next = K1.next + 1 := rfl
  generalize eL1 : K1.newRow [.slice none 1 0 true, .slice none 1 0 true, .slice none 1 0 true, .slice none 1 0 true, .int .i64 0] = L1 at L1s L1a L1n
  have L2s := Chg.newRow L1 [.slice none 1 0 true, .slice none 1 0 true, .slice none 1 0 true, .slice none 1 0 true, .int .i64 0]
  have L2a := Arr.newRow L1 [.slice none 1 0 true, .slice none 1 0 true, .slice none 1 0 true, .slice none 1 0 true, .int .i64 0] fun _ => False
  have L2n : (L1.newRow [.slice none 1 0 true, .slice none 1 0 true, .slice none 1 0 true, .slice none 1 0 true, .int .i64 0]).next = L1.next + 1 := rfl
  generalize eL2 : L1.newRow [.slice none 1 0 true, .slice none 1 0 true, .slice none 1 0 true, .slice none 1 0 true, .int .i64 0] = L2 at L2s L2a L2n
  have d1 := bw.lds.1
  have bw1 := bw.sm L1s
  have d2 := bw1.lds.1
  have bw2 := bw1.sm L2s
  have d3 := bw2.lds.1
  simp -implicitDefEqProofs only [e1, d1, eL1, eL2, go_sem]
  refine CW.mono (c_Copy bw2.u tq.bnd) ?_
  rintro _ L3 ⟨cv, rfl, cp⟩
  have bw3 := bw2.sm cp.sm
  have d4 := bw3.lds.1
  simp -implicitDefEqProofs only [d4, go_sem]
  refine CW.mono (c_Copy bw3.u tq.bnd) ?_
  rintro _ L4 ⟨cw, rfl, cq⟩
  have hcp := cp
  have s23 := cp.sm; have s34 := cq.sm
  have n23 := s23.1; have n34 := s34.1
  have uv := cp.un
  have uw := cq.un
  have hcq := cq
  obtain ⟨lo, H1, H2, H3, v1, v2, v3, v4, rfl, hm, l0, l1, -, o1, q1, g2, l2, q23, g3, q3, g4, m2, m3, m4⟩ := cp
  obtain ⟨y1, y2, y3, y4, rfl, -⟩ := id uw
  -- shapes
  have hnl : u.names.length = 6 := by rw [tq.n]; rfl
  have hm9 := tq.m9
  have hcl3 : 3 ≤ u.classes.length ∧ u.classes.length ≤ 5 := by
    obtain ⟨l, S, tc⟩ := tq.c
    have := tc.f.n3; have := tc.f.n5; have := tc.n
    omega
  have ho1 := tq.o1
  obtain ⟨p1, r1, c1, hv1, -⟩ : ∃ p q k, v1 = .slice p q u.names.length k ∧ True := by
    obtain ⟨_, _, _, _, e, -, h, -⟩ := uv
    cases e
    obtain ⟨a, b, c, e, -⟩ := h.shape
    exact ⟨a, b, c, e, trivial⟩
  obtain ⟨p2, r2, c2, hv2, -⟩ : ∃ p q k, v2 = .slice p q u.classes.length k ∧ True := by
    obtain ⟨_, _, _, _, e, -, -, h, -⟩ := uv
    cases e
    obtain ⟨a, b, c, e, -⟩ := h.shape
    exact ⟨a, b, c, e, trivial⟩
  obtain ⟨p3, r3, c3, hv3, -⟩ : ∃ p q k, v3 = .slice p q u.methods.length k ∧ True := by
    obtain ⟨_, _, _, _, e, -, -, -, h, -⟩ := uv
    cases e
    obtain ⟨a, b, c, e, -⟩ := h.shape
    exact ⟨a, b, c, e, trivial⟩
  obtain ⟨p4, r4, c4, hv4, -⟩ : ∃ p q k, v4 = .slice p q u.objects.length k ∧ True := by
    obtain ⟨_, _, _, _, e, -, -, -, -, h⟩ := uv
    cases e
    obtain ⟨a, b, c, e, -⟩ := h.shape
    exact ⟨a, b, c, e, trivial⟩
  obtain ⟨L5, f5, n5, V5, g5⟩ := (((L1a.sm L2s).sm s23).sm s34).store (o := 0) (vs := [v1, v2, v3, v4, iv u.main]) (cs' := [v1, v2, v3, v4, iv u.main]) (by simp) rfl
  have g5' : ∀ z, z ≠ K1.next → L5.get z = L4.get z := fun z hz => g5 z hz (fun h => h)
  obtain ⟨L6, f6, n6, W6, g6⟩ := (((L2a.sm s23).sm s34).keep (H' := L5) (by omega) (g5' _ (by omega))).store (o := 0) (vs := [y1, y2, y3, y4, iv u.main]) (cs' := [y1, y2, y3, y4, iv u.main]) (by simp) rfl
  have g6' : ∀ z, z ≠ L1.next → L6.get z = L5.get z := fun z hz => g6 z hz (fun h => h)
  have V6 := V5.keep (H' := L6) (by omega) (g6' _ (by omega))
  have kL : ∀ z, z < L4.next → z ≠ K1.next → z ≠ L1.next → L6.get z = L4.get z := fun z h1 h2 h3 => by rw [g6' z h3, g5' z h2]
  have kk : KpM L2.next L3 L6 := ⟨by omega, fun z h1 h2 => by rw [kL z (by omega) (by omega) (by omega), s34.gt h2]⟩
  have kw : KpM L3.next L4 L6 := ⟨by omega, fun z h1 h2 => kL z h2 (by omega) (by omega)⟩
  have s16 : Sm K1 L6 := Sm.of (by omega) fun z hz => by rw [kL z (by omega) (by omega) (by omega), s34.gt (by omega), s23.gt (by omega), L2s.gt (by omega), L1s.gt hz]
  have bw6 := bw.sm s16
  obtain ⟨u6, u60, u61, u62, u63, u64⟩ := bw6.lds
  have uv6 := hcp.unK kk
  have V6l := V6.rd.load (n := 5) rfl
  have on : ∀ {G : AHeap} {b : Nat} {cs : List AV} {j : Nat} {v : AV}, Arr G b cs (fun _ => False) → cs[j]? = some v → loadA G b j 1 = some [v] := fun h hj => by
    have := h.rd.one hj
    rwa [Nat.zero_add] at this
  have x60 := on V6 (j := 0) rfl
  have x61 := on V6 (j := 1) rfl
  have x62 := on V6 (j := 2) rfl
  have x63 := on V6 (j := 3) rfl
  have et : decide (u = u) = true := decide_eq_true rfl
  have zm : iv u.main = .int .i64 u.main := rfl
  rw [hv1] at x60
  rw [hv2] at x61
  rw [hv3] at x62
  rw [hv4] at x63
  simp -implicitDefEqProofs only [d1, d2, d3, d4, f5, f6, u6, V6l, go_sem]
  refine CW.mono (c_Same bw6.u uv6) ?_
  rintro _ L7 ⟨rfl, t7⟩
  have wM : IntKind.i64.wrap ((u.methods.length : Int) - 1) = 8 := by rw [wrap64 (by omega) (by omega)]; omega
  have z0 := bw6.sm t7
  obtain ⟨u7, u70, u71, u72, u73, u74⟩ := z0.lds
  have V7 := V6.sm t7
  have x70 := on V7 (j := 0) (by rw [hv1]; rfl)
  have x71 := on V7 (j := 1) (by rw [hv2]; rfl)
  have x72 := on V7 (j := 2) (by rw [hv3]; rfl)
  have x73 := on V7 (j := 3) (by rw [hv4]; rfl)
  simp -implicitDefEqProofs only [et, x70, x71, x72, x73, u70, u71, u72, u73, bne_self_eq_false, Bool.false_eq_true, wM, go_sem]
  refine CW.mono (c_withinN at' 0 8 L7 (by omega) (by omega) (by omega)) ?_
  rintro _ G ⟨⟨k, rfl, hk0, hk8⟩, rfl⟩
  obtain ⟨k, rfl⟩ : ∃ j : Nat, k = (j : Int) := ⟨k.toNat, by omega⟩
  have kG : KpM L2.next L3 G := kk.trans (Sm.kp t7)
  have nq1 := q1.1; have nq23 := q23.1; have nq3 := q3.1; have nkG := kG.1
  have hk9 : k < u.methods.length := by omega
  -- the names
  obtain ⟨hm1, ⟨h0, -⟩ | ⟨x1, cl1, cs1, ex1, lx1, -, ax1, hl1, hj1⟩⟩ := o1
  · rw [h0] at hnl; cases hnl
  have bx1 := ax1.1
  have A1 : Arr G x1 cs1 fun _ => False := ax1.keep (by omega) (by rw [kG.2 x1 (by omega) (by omega), q1.2 x1 lx1 bx1])
  -- the classes
  obtain ⟨cs2, ⟨hl2, ⟨s0, -, h0⟩ | ⟨x2, ex2, hx2, ax2⟩⟩, he2⟩ := g2
  · omega
  have bx2 := ax2.1
  have A2 := ax2.keep (H' := G) (by omega) (by rw [kG.2 x2 (by omega) (by omega), q3.2 x2 (by omega) (by omega), q23.2 x2 (by omega) bx2])
  -- the methods
  obtain ⟨cs3, ⟨hl3, ⟨s0, -, h0⟩ | ⟨x3, ex3, hx3, ax3⟩⟩, he3⟩ := g3
  · omega
  have bx3 := ax3.1
  have A3 := ax3.keep (H' := G) (by omega) (by rw [kG.2 x3 (by omega) (by omega), q3.2 x3 (by omega) bx3])
  have ub3 : ub v3 = some x3 := by rw [ex3]; rfl
  obtain ⟨vl', vc, hch, -, -, ol, oc⟩ := he3 k hk9
  rw [ub3] at ol oc
  obtain ⟨-, -, hlit, lc, ec, hcode, -, -, hl30⟩ : methOk u.classes.length _ u.methods[k] := by
    have := tq.ma k (by omega)
    rwa [mAt_nat hk9] at this
  have hll := hlit.len
  have hcb : u.methods[k].code.length ≤ 100 := by rw [hcode, flatI_len, List.length_append, List.length_singleton]; omega
  have hcl2 : 2 ≤ u.methods[k].code.length := by rw [hcode, flatI_len, List.length_append, List.length_singleton]; omega
  obtain ⟨-, ⟨h0, -⟩ | ⟨zc, clc, csc, exc, lzc, uzc, azc, hlc, hjc⟩⟩ := oc
  · rw [h0] at hcl2; simp at hcl2
  obtain ⟨-, ⟨h0, -⟩ | ⟨zl, cll, csl, exl, lzl, uzl, azl, hls, hjl⟩⟩ := ol
  · rw [h0] at hll; simp at hll
  have bzc := azc.1; have bzl := azl.1
  have Ac : Arr G zc csc fun _ => False := azc.keep (by omega) (by rw [kG.2 zc (by omega) (by omega), q3.2 zc (by omega) bzc])
  have Al : Arr G zl csl fun _ => False := azl.keep (by omega) (by rw [kG.2 zl (by omega) (by omega), q3.2 zl (by omega) bzl])
  have hzc3 : zc ≠ x3 := fun e => uzc (by rw [e])
  have hzl3 : zl ≠ x3 := fun e => uzl (by rw [e])
  have qc := cells_all (enc := byC) (Q := fun a => ∃ m : Int, a = .int .u8 m) (by omega) hlc (fun j hj => (hjc j hj).1) fun x a ha => by
    simp only [byC, List.mem_singleton] at ha; exact ⟨_, ha⟩
  have ql := cells_all (enc := prC) (Q := fun a => ∃ m : Int, a = .int .i64 m) (by omega) hls (fun j hj => (hjl j hj).1) fun x a ha => by
    simp only [prC, iv, List.mem_cons, List.not_mem_nil, or_false] at ha; rcases ha with ha | ha <;> exact ⟨_, ha⟩
  have hcz : zl ≠ zc := fun e => by
    subst e
    have e2 := azl.eq azc
    subst e2
    have h0 : 0 < csl.length := by omega
    obtain ⟨m, hm'⟩ := qc 0 h0
    obtain ⟨m', hm''⟩ := ql 0 h0
    rw [hm'] at hm''; cases hm''
  -- the objects
  obtain ⟨cs4, ⟨hl4, ⟨s0, -, h0⟩ | ⟨x4, ex4, hx4, ax4⟩⟩, he4⟩ := g4
  · omega
  have bx4 := ax4.1
  have A4 := ax4.keep (H' := G) (by omega) (by rw [kG.2 x4 (by omega) bx4])
  have ub4 : ub v4 = some x4 := by rw [ex4]; rfl
  obtain ⟨vf, hcf, -, of4⟩ := he4 0 (by omega)
  rw [ub4] at of4
  -- what is read
  have r3 : ∀ {K : AHeap}, G.next ≤ K.next → K.get x3 = G.get x3 → loadA K x3 (k * 4 + 3) 1 = some [vc] ∧ loadA K x3 (k * 4 + 2) 1 = some [vl'] := fun h1 h2 => by
    have hle : (k + 1) * 4 ≤ u.methods.length * 4 := Nat.mul_le_mul_right _ hk9
    rcases (A3.keep h1 h2).rd.part (k * 4) 4 with hr | hr
    · rw [hch] at hr
      have t1 := hr.one (j := 3) rfl
      have t2 := hr.one (j := 2) rfl
      rw [Nat.zero_add] at t1 t2
      exact ⟨t1, t2⟩
    · omega
  have vl2 : ∀ {K : AHeap}, G.next ≤ K.next → K.get K1.next = G.get K1.next → loadA K K1.next 0 1 = some [v1] ∧ loadA K K1.next 1 1 = some [v2] ∧ loadA K K1.next 2 1 = some [v3] ∧ loadA K K1.next 3 1 = some [v4] ∧ loadA K K1.next 0 5 = some [v1, v2, v3, v4, .int .i64 u.main] := fun h1 h2 => by
    have V := (V7.keep h1 h2)
    exact ⟨on V (j := 0) rfl, on V (j := 1) rfl, on V (j := 2) rfl, on V (j := 3) rfl, V.rd.load rfl⟩
  obtain ⟨k0', hk0'⟩ : ∃ x : Nat, x = k := ⟨k, rfl⟩
  have hkI : (k : Int) < (u.methods.length : Int) := by omega
  obtain ⟨gv0, gv1, gv2, gv3, gv5⟩ := vl2 (Nat.le_refl _) (rfl : G.get K1.next = G.get K1.next)
  obtain ⟨gc, gl⟩ := r3 (Nat.le_refl _) (rfl : G.get x3 = G.get x3)
  rw [ex3] at gv2
  rw [exc] at gc
  have vK : K1.next < L2.next := by omega
  simp -implicitDefEqProofs only [gv2, gc, hk0, hkI, go_sem]
  -- code turned
  refine WP_mono (Q := fun ex fr K => ex = .exit 0 ∧ fr.get 1 = some (.int .i64 what) ∧ fr.get 3 = some (.int .i64 n) ∧ fr.get 9 = some (.ptr (some (K0.next, 0))) ∧ fr.get 10 = some (.ptr (some (K1.next, 0))) ∧ fr.get 11 = some (.ptr (some (L1.next, 0))) ∧ fr.get 12 = some (.int .i64 (k : Int)) ∧ K.next = G.next ∧ ∀ z, z ≠ zc → K.get z = G.get z) ?_ (WP_loop (fun m fr K => fr.get 1 = some (.int .i64 what) ∧ fr.get 3 = some (.int .i64 n) ∧ fr.get 9 = some (.ptr (some (K0.next, 0))) ∧ fr.get 10 = some (.ptr (some (K1.next, 0))) ∧ fr.get 11 = some (.ptr (some (L1.next, 0))) ∧ fr.get 12 = some (.int .i64 (k : Int)) ∧ fr.get 76 = some (.int .i64 (u.methods[k].code.length : Int)) ∧ ∃ (i : Nat) (f : Nat → AV), m = u.methods[k].code.length - i ∧ i ≤ u.methods[k].code.length ∧ fr.get 77 = some (.int .i64 (i : Int)) ∧ FA K zc u.methods[k].code.length f (fun _ => False) ∧ (∀ j, j < u.methods[k].code.length → ∃ m : Int, f j = .int .u8 m) ∧ K.next = G.next ∧ ∀ z, z ≠ zc → K.get z = G.get z) u.methods[k].code.length ?_ ?_)
  rotate_left
  · obtain ⟨f, hf, hfq⟩ := FA.ofF (Q := fun a => ∃ m : Int, a = .int .u8 m) Ac qc
    have hlc' : csc.length = u.methods[k].code.length := by omega
    rw [hlc'] at hf hfq
    simp -implicitDefEqProofs only [go_sem]
    exact ⟨0, f, rfl, by omega, rfl, hf, hfq, fun _ _ => trivial⟩
  · rintro m fr K ⟨b1, b3, b9, b10, b11, b12, b76, i, f, hm', hi, b77, hf, hfq, hn, hg⟩
    by_cases hlt : (i : Int) < (u.methods[k].code.length : Int)
    rotate_left
    · simp -implicitDefEqProofs only [b1, b3, b9, b10, b11, b12, b76, b77, hlt, Bool.false_eq_true, go_sem]
      exact ⟨hn, hg⟩
    have i0 : (0 : Int) ≤ (i : Int) := by omega
    have hil : i < u.methods[k].code.length := by omega
    obtain ⟨gv0, gv1, gv2, gv3, gv5⟩ := vl2 (K := K) (by omega) (hg _ (by omega))
    obtain ⟨gc, gl⟩ := r3 (K := K) (by omega) (hg _ (Ne.symm hzc3))
    rw [ex3] at gv2
    rw [exc] at gc
    have ldc := hf.ld hil
    obtain ⟨m1, hm1'⟩ := hfq i hil
    rw [hm1'] at ldc
    have cvn : ∀ G, convA (.int .u8) (.int .i64 n) G = some (.int .u8 (wb n : Int), G) := fun G => by rw [← wb_wrap]; rfl
    obtain ⟨X, hX⟩ : ∃ X : Int, binA .xor (.sc .int) (.int .u8 m1) (.int .u8 (wb n : Int)) = some (.int .u8 X) := ⟨_, rfl⟩
    obtain ⟨K', e5, n5', hf', g5''⟩ := hf.store hil (.int .u8 X)
    have hw1 : IntKind.i64.wrap ((i : Int) + 1) = ((i + 1 : Nat) : Int) := by rw [wrap64 (by omega) (by omega)]; omega
    simp -implicitDefEqProofs only [b1, b3, b9, b10, b11, b12, b76, b77, hlt, i0, hk0, hkI, gv2, gc, Nat.mul_one, ldc, cvn, ↓hX, e5, hw1, ↓WP_seq, ↓WP_skip, ↓WP_region, ↓WP_dregion, ↓WP_cond, ↓WP_block, ↓WP_exit, ↓WP_ret, ↓OW_nil, ↓OW_cons, ↓DW_nil, ↓DW_cons, ↓XW_call, XW, exA, KO_eq, OptK_some, EvK_some, GW2_true, GW2_false, KS_normal, KS_ret, KS_exit, KB_normal, KB_ret, KB_exit, CP2_bool, RP_ret, putA_some, putA_none, ev_t, ev_c, evs, evo, wantA, initA, resA, Tr.get_set, vl, chkOk, cond_true, cond_false, Nat.add_zero, Nat.mul_one, Nat.one_mul, Nat.zero_add, Nat.zero_mul, aggOf, pInt, binA, unA, intA, beq_true, beq_false, Bool.not_true, Bool.not_false, Bool.not_eq_true, and_self, and_true, true_and, ↓reduceIte, reduceIte, Nat.reduceEqDiff, Nat.succ_ne_self, Nat.reduceAdd, Nat.reduceMul, Nat.reduceSub, Nat.reduceBEq, Nat.reduceLT, Nat.reduceLeDiff, Int.cast_ofNat_Int, Int.reduceToNat, Int.reduceLT, Int.reduceLE, Int.reduceGE, Int.reduceGT, Int.reduceEq, Int.reduceNe, Int.reduceAdd, Int.reduceSub, Int.reduceNeg, decide_true, decide_false, Int.toNat_natCast, reduceCtorEq, List.nil_append, List.cons_append, AV.boxy, AV.cells, List.length_cons, List.length_nil, Nat.beq_refl, AOp.cl, ↓OW_guard, ↓DW_guard, KDW_0, KDW_1, KDW_2, OWskip_eq, DWskip_eq, fillA, setAt, DChk, DAt, stepA, ble_dec, beq_dec, Bool.and_self, Bool.and_true, Bool.true_and, Bool.and_false, Bool.false_and, List.take_succ_cons, List.take_zero, List.drop_succ_cons, List.drop_zero, List.take_nil, List.drop_nil, List.append_nil, eqAV, eqAVL, BEq.rfl, sameS, Option.map, Option.isNone, wrap64, gt_iff_lt, ge_iff_le, Int.lt_irrefl, Int.le_refl]
    refine ⟨u.methods[k].code.length - (i + 1), by omega, i + 1, _, rfl, by omega, rfl, hf', fun j hj => ?_, by omega, fun z hz => by rw [g5'' z hz (fun h => h), hg z hz]⟩
    by_cases e : j = i
    · exact ⟨X, by show (if j = i then _ else _) = _; rw [if_pos e]⟩
    · obtain ⟨m2, hm2⟩ := hfq j hj
      exact ⟨m2, by show (if j = i then _ else _) = _; rw [if_neg e]; exact hm2⟩
  rintro ex fr J ⟨rfl, b1, b3, b9, b10, b11, b12, nJ, gJ⟩
  obtain ⟨gv0, gv1, gv2, gv3, gv5⟩ := vl2 (K := J) (by omega) (gJ _ (by omega))
  obtain ⟨gc, gl⟩ := r3 (K := J) (by omega) (gJ _ (Ne.symm hzc3))
  rw [ex3] at gv2
  rw [exl] at gl
  have Alj := Al.keep (H' := J) (by omega) (gJ _ hcz)
  simp -implicitDefEqProofs only [b1, b3, b9, b10, b11, b12, gv2, gl, hk0, hkI, go_sem]
  -- literals turned
  refine WP_mono (Q := fun ex fr K => ex = .exit 2 ∧ fr.get 1 = some (.int .i64 what) ∧ fr.get 9 = some (.ptr (some (K0.next, 0))) ∧ fr.get 10 = some (.ptr (some (K1.next, 0))) ∧ fr.get 11 = some (.ptr (some (L1.next, 0))) ∧ K.next = G.next ∧ ∀ z, z ≠ zl → K.get z = J.get z) ?_ (WP_loop (fun m fr K => fr.get 1 = some (.int .i64 what) ∧ fr.get 3 = some (.int .i64 n) ∧ fr.get 9 = some (.ptr (some (K0.next, 0))) ∧ fr.get 10 = some (.ptr (some (K1.next, 0))) ∧ fr.get 11 = some (.ptr (some (L1.next, 0))) ∧ fr.get 12 = some (.int .i64 (k : Int)) ∧ fr.get 100 = some (.int .i64 (u.methods[k].lits.length : Int)) ∧ ∃ (i : Nat) (f : Nat → AV), m = u.methods[k].lits.length - i ∧ i ≤ u.methods[k].lits.length ∧ fr.get 101 = some (.int .i64 (i : Int)) ∧ FA K zl (u.methods[k].lits.length * 2) f (fun _ => False) ∧ (∀ j, j < u.methods[k].lits.length * 2 → ∃ m : Int, f j = .int .i64 m) ∧ K.next = G.next ∧ ∀ z, z ≠ zl → K.get z = J.get z) u.methods[k].lits.length ?_ ?_)
  rotate_left
  · obtain ⟨f, hf, hfq⟩ := FA.ofF (Q := fun a => ∃ m : Int, a = .int .i64 m) Alj ql
    rw [hls] at hf hfq
    simp -implicitDefEqProofs only [b1, b3, b9, b10, b11, b12, go_sem]
    exact ⟨0, f, rfl, by omega, rfl, hf, hfq, nJ, fun _ _ => trivial⟩
  · rintro m fr K ⟨b1, b3, b9, b10, b11, b12, b100, i, f, hm', hi, b101, hf, hfq, hn, hg⟩
    by_cases hlt : (i : Int) < (u.methods[k].lits.length : Int)
    rotate_left
    · simp -implicitDefEqProofs only [b1, b3, b9, b10, b11, b12, b100, b101, hlt, Bool.false_eq_true, go_sem]
      exact ⟨hn, hg⟩
    have i0 : (0 : Int) ≤ (i : Int) := by omega
    have hil : i * 2 + 1 < u.methods[k].lits.length * 2 := by omega
    have hgG : K.get K1.next = G.get K1.next := by rw [hg _ (by omega), gJ _ (by omega)]
    obtain ⟨gv0, gv1, gv2, gv3, gv5⟩ := vl2 (K := K) (by omega) hgG
    obtain ⟨gc, gl⟩ := r3 (K := K) (by omega) (by rw [hg _ (Ne.symm hzl3), gJ _ (Ne.symm hzc3)])
    rw [ex3] at gv2
    rw [exl] at gl
    have ldc := hf.ld hil
    obtain ⟨m1, hm1'⟩ := hfq _ hil
    rw [hm1'] at ldc
    obtain ⟨v7, hv7, w7⟩ := and_le n 7 (by decide) (by decide)
    obtain ⟨X, hX⟩ : ∃ X : Int, IntKind.i64.wrap (m1 + (v7 : Int)) = X := ⟨_, rfl⟩
    obtain ⟨K', e5, n5', hf', g5''⟩ := hf.store hil (.int .i64 X)
    have hw1 : IntKind.i64.wrap ((i : Int) + 1) = ((i + 1 : Nat) : Int) := by rw [wrap64 (by omega) (by omega)]; omega
    simp -implicitDefEqProofs only [b1, b3, b9, b10, b11, b12, b100, b101, hlt, i0, hk0, hkI, gv2, gl, ldc, w7, hX, e5, hw1, ↓WP_seq, ↓WP_skip, ↓WP_region, ↓WP_dregion, ↓WP_cond, ↓WP_block, ↓WP_exit, ↓WP_ret, ↓OW_nil, ↓OW_cons, ↓DW_nil, ↓DW_cons, ↓XW_call, XW, exA, KO_eq, OptK_some, EvK_some, GW2_true, GW2_false, KS_normal, KS_ret, KS_exit, KB_normal, KB_ret, KB_exit, CP2_bool, RP_ret, putA_some, putA_none, ev_t, ev_c, evs, evo, wantA, initA, resA, Tr.get_set, vl, chkOk, cond_true, cond_false, Nat.add_zero, Nat.mul_one, Nat.one_mul, Nat.zero_add, Nat.zero_mul, aggOf, pInt, binA, unA, intA, beq_true, beq_false, Bool.not_true, Bool.not_false, Bool.not_eq_true, and_self, and_true, true_and, ↓reduceIte, reduceIte, Nat.reduceEqDiff, Nat.succ_ne_self, Nat.reduceAdd, Nat.reduceMul, Nat.reduceSub, Nat.reduceBEq, Nat.reduceLT, Nat.reduceLeDiff, Int.cast_ofNat_Int, Int.reduceToNat, Int.reduceLT, Int.reduceLE, Int.reduceGE, Int.reduceGT, Int.reduceEq, Int.reduceNe, Int.reduceAdd, Int.reduceSub, Int.reduceNeg, decide_true, decide_false, Int.toNat_natCast, reduceCtorEq, List.nil_append, List.cons_append, AV.boxy, AV.cells, List.length_cons, List.length_nil, Nat.beq_refl, AOp.cl, ↓OW_guard, ↓DW_guard, KDW_0, KDW_1, KDW_2, OWskip_eq, DWskip_eq, fillA, setAt, DChk, DAt, stepA, ble_dec, beq_dec, Bool.and_self, Bool.and_true, Bool.true_and, Bool.and_false, Bool.false_and, List.take_succ_cons, List.take_zero, List.drop_succ_cons, List.drop_zero, List.take_nil, List.drop_nil, List.append_nil, eqAV, eqAVL, BEq.rfl, sameS, Option.map, Option.isNone, wrap64, gt_iff_lt, ge_iff_le, Int.lt_irrefl, Int.le_refl]
    refine ⟨u.methods[k].lits.length - (i + 1), by omega, i + 1, _, rfl, by omega, rfl, hf', fun j hj => ?_, by omega, fun z hz => by rw [g5'' z hz (fun h => h), hg z hz]⟩
    by_cases e : j = i * 2 + 1
    · exact ⟨X, by show (if j = i * 2 + 1 then _ else _) = _; rw [if_pos e]⟩
    · obtain ⟨m2, hm2⟩ := hfq j hj
      exact ⟨m2, by show (if j = i * 2 + 1 then _ else _) = _; rw [if_neg e]; exact hm2⟩
  rintro ex fr M ⟨rfl, b1, b9, b10, b11, nM, gM⟩
  have gMG : ∀ z, z ≠ zl → z ≠ zc → M.get z = G.get z := fun z h1 h2 => by rw [gM z h1, gJ z h2]
  -- a name turned
  have hc1 : cs1.length = 6 := by rw [hl1, hnl]
  obtain ⟨M1, m1e, m1n, m1a, m1g⟩ := (A1.keep (H' := M) (by omega) (gMG _ (by omega) (by omega))).store (o := 0) (vs := [.str [116, 117, 114, 110, 101, 100]]) (by simp; omega) rfl
  have m1g' : ∀ z, z ≠ x1 → M1.get z = M.get z := fun z hz => m1g z hz (fun h => h)
  obtain ⟨gv0, -, -, -, -⟩ := vl2 (K := M) (by omega) (gMG _ (by omega) (by omega))
  obtain ⟨-, gv1, -, -, -⟩ := vl2 (K := M1) (by omega) (by rw [m1g' _ (by omega), gMG _ (by omega) (by omega)])
  have hc2 : cs2.length = u.classes.length * 4 := hl2
  obtain ⟨M2, m2e, m2n, m2a, m2g⟩ := (A2.keep (H' := M1) (by omega) (by rw [m1g' _ (by omega), gMG _ (by omega) (by omega)])).store (o := 6) (vs := [.int .i64 what]) (by simp; omega) rfl
  have m2g' : ∀ z, (z < H1.next ∨ H2.next ≤ z) → M2.get z = M1.get z := fun z hz => m2g z (by omega) fun h => by have := h.1; omega
  have hcI : (1 : Int) < (u.classes.length : Int) := by omega
  have hoI : (0 : Int) < (u.objects.length : Int) := by omega
  have hnI : (0 : Int) < (u.names.length : Int) := by omega
  have gT : ∀ z, (z < L2.next ∨ H3.next ≤ z) → M2.get z = G.get z := fun z hz => by rw [m2g' z (by omega), m1g' z (by omega), gMG z (by omega) (by omega)]
  obtain ⟨-, -, -, gv3, gv5⟩ := vl2 (K := M2) (by omega) (gT _ (by omega))
  have lf : ∀ {K : AHeap}, G.next ≤ K.next → K.get x4 = G.get x4 → loadA K x4 1 1 = some [vf] := fun h1 h2 => by
    rcases (A4.keep h1 h2).rd.part (0 * 2) 2 with hr | hr
    · rw [hcf] at hr
      have t1 := hr.one (j := 1) rfl
      simpa using t1
    · omega
  have lf2 := lf (K := M2) (by omega) (gT _ (by omega))
  rw [ex1] at gv0
  rw [ex2] at gv1
  rw [ex4] at gv3
  have hfl62 : u.objects[0].fields.length ≤ 62 := by
    have hp := tq.obj (List.getElem_mem (show 0 < u.objects.length by omega))
    unfold objP at hp
    exact (of_decide_eq_true (Bool.and_eq_true _ _ ▸ hp).1).2.2.1
  obtain ⟨pf, rf, cf, hvf⟩ : ∃ p q c, vf = .slice p q u.objects[0].fields.length c := by
    obtain ⟨-, ⟨h0, s0, cl, e⟩ | ⟨z, cl, cs, e, -⟩⟩ := of4
    · exact ⟨_, _, _, by rw [e, h0]; rfl⟩
    · exact ⟨_, _, _, e⟩
  have hzf : u.objects[0].fields.length ≠ 0 → ∃ zf clf, vf = .slice (some (zf, 0)) 2 u.objects[0].fields.length clf ∧ H3.next ≤ zf ∧ zf < L3.next ∧ zf ≠ x4 ∧ ∃ f, FA M2 zf (u.objects[0].fields.length * 2) f fun _ => False := fun h0 => by
    obtain ⟨-, ⟨h1, -⟩ | ⟨z, cl, cs, e, hz, hux, az, hzl, -⟩⟩ := of4
    · rw [h1] at h0; exact absurd rfl h0
    · have hb := az.1
      refine ⟨z, cl, e, hz, hb, fun e => hux (by rw [e]), ?_⟩
      have := FA.of (az.keep (H' := M2) (by omega) (by rw [gT z (by omega), kG.2 z (by omega) hb]))
      rw [hzl] at this
      exact ⟨_, this⟩
  generalize hF : u.objects[0].fields.length = F at *
  rw [hvf] at lf2
  simp -implicitDefEqProofs only [b1, b9, b10, b11, gv0, hnI, m1e, gv1, hcI, m2e, gv3, hoI, lf2, go_sem]
  refine WP_mono (Q := fun ex fr K => ex = .exit 4 ∧ fr.get 9 = some (.ptr (some (K0.next, 0))) ∧ fr.get 10 = some (.ptr (some (K1.next, 0))) ∧ fr.get 11 = some (.ptr (some (L1.next, 0))) ∧ K.next = G.next ∧ ∀ z, (z < H3.next ∨ L3.next ≤ z) → K.get z = M2.get z) ?_ (WP_loop (fun m fr K => fr.get 9 = some (.ptr (some (K0.next, 0))) ∧ fr.get 10 = some (.ptr (some (K1.next, 0))) ∧ fr.get 11 = some (.ptr (some (L1.next, 0))) ∧ fr.get 133 = some (.int .i64 (F : Int)) ∧ ∃ i : Nat, m = F - i ∧ i ≤ F ∧ fr.get 134 = some (.int .i64 (i : Int)) ∧ (F ≠ 0 → ∀ zf clf, vf = .slice (some (zf, 0)) 2 F clf → ∃ f, FA K zf (F * 2) f fun _ => False) ∧ K.next = G.next ∧ K.get x4 = M2.get x4 ∧ ∀ z, (z < H3.next ∨ L3.next ≤ z) → K.get z = M2.get z) F ?_ ?_)
  rotate_left
  · simp -implicitDefEqProofs only [b9, b10, b11, go_sem]
    refine ⟨0, rfl, by omega, rfl, fun h0 zf clf e => ?_, by omega, fun _ _ => trivial⟩
    obtain ⟨z2, cl2, e2, -, -, -, f, hf⟩ := hzf h0
    rw [e2] at e; cases e
    exact ⟨f, hf⟩
  · rintro m fr K ⟨b9, b10, b11, b133, i, hm', hi, b134, hfa, hn, hgx, hg⟩
    by_cases hlt : (i : Int) < (F : Int)
    rotate_left
    · simp -implicitDefEqProofs only [b9, b10, b11, b133, b134, hlt, Bool.false_eq_true, go_sem]
      exact ⟨hn, hg⟩
    have i0 : (0 : Int) ≤ (i : Int) := by omega
    obtain ⟨zf, clf, ef, lzf, bzf, hzx, -⟩ := hzf (by omega)
    obtain ⟨f, hf⟩ := hfa (by omega) zf clf ef
    obtain ⟨-, -, -, gv3, -⟩ := vl2 (K := K) (by omega) (by rw [hg _ (by omega), gT _ (by omega)])
    have lf3 := lf (K := K) (by omega) (by rw [hgx, gT x4 (by omega)])
    rw [ex4] at gv3
    rw [ef] at lf3
    obtain ⟨K', e5, n5', hf', g5''⟩ := hf.st2 (i := i * 2) (by omega) (.int .i64 9) (.int .i64 0)
    have hw1 : IntKind.i64.wrap ((i : Int) + 1) = ((i + 1 : Nat) : Int) := by rw [wrap64 (by omega) (by omega)]; omega
    simp -implicitDefEqProofs only [b9, b10, b11, b133, b134, hlt, i0, gv3, hoI, lf3, e5, hw1, go_sem]
    refine ⟨F - (i + 1), by omega, i + 1, rfl, by omega, rfl, fun h0 z2 cl2 e2 => ?_, by omega, by rw [g5'' _ (Ne.symm hzx), hgx], fun z hz => by rw [g5'' z (by omega), hg z hz]⟩
    rw [ef] at e2; cases e2
    exact ⟨_, hf'⟩
  rintro ex fr K ⟨rfl, b9, b10, b11, nK, gK⟩
  -- what is said
  have gKG : ∀ z, (z < L2.next ∨ L3.next ≤ z) → K.get z = G.get z := fun z hz => by rw [gK z (by omega), gT z (by omega)]
  have sG0 : Sm K0 G := (sm1.trans s16).trans t7
  have nG0 := sG0.1
  have nt7 := t7.1
  have sK0 : Sm K0 K := Sm.of (by omega) fun z hz => by rw [gKG z (by omega), sG0.gt hz]
  have uK := MonoE.un _ _ _ _ hu sK0
  have aK := z0.a.keep (H' := K) (by omega) (gKG _ (by omega))
  have uld : ∀ {K' : AHeap}, Sm K K' → loadA K' K0.next 0 5 = some [.slice a1 s1 u.names.length k1, .slice a2 s2 u.classes.length k2, .slice a3 s3 u.methods.length k3, .slice a4 s4 u.objects.length k4, .int .i64 u.main] := fun s => (aK.sm s).rd.load rfl
  have wK : loadA K L1.next 0 5 = some [y1, y2, y3, y4, .int .i64 u.main] := ((W6.sm t7).keep (H' := K) (by omega) (gKG _ (by omega))).rd.load rfl
  have uw2 := hcq.unK (G := K) ⟨by omega, fun z h1 h2 => by rw [gKG z (by omega), t7.gt (by omega), kw.2 z h1 h2]⟩
  have u0 := uld (Chg.refl K)
  simp -implicitDefEqProofs only [b9, b10, b11, u0, wK, go_sem]
  refine CW.mono (c_rSame uK uw2) ?_
  rintro _ T1 ⟨rfl, r1⟩
  have u1 := uld r1
  simp -implicitDefEqProofs only [b9, b10, b11, et, u1, go_sem]
  refine CW.mono (c_unitRight (MonoE.un _ _ _ _ uK r1)) ?_
  rintro _ T2 ⟨rfl, r2⟩
  have u2 := uld (r1.trans r2)
  obtain ⟨-, -, -, -, gv5⟩ := vl2 (K := T2) (by have := (r1.trans r2).1; omega) (by rw [(r1.trans r2).gt (by omega), gKG _ (by omega)])
  have A1K : Arr T2 x1 (setAt cs1 0 [.str [116, 117, 114, 110, 101, 100]]) fun _ => False := m1a.keep (by have := (r1.trans r2).1; omega) (by rw [(r1.trans r2).gt (by omega), gK _ (by omega), m2g' _ (by omega)])
  have hsn : SlE StE 1 T2 ([116, 117, 114, 110, 101, 100] :: u.names.tail) [v1] := by
    rw [ex1]
    have htl : ([116, 117, 114, 110, 101, 100] :: u.names.tail).length = u.names.length := by simp; omega
    refine SlE.new MonoE.enc A1K.rd htl.symm (by rw [setAt_lenO (by omega), hl1, htl]) (by rw [htl]; unfold maxLen; omega) fun j hj => ?_
    rw [htl] at hj
    have hcs := chunk_set (cs := cs1) (s := 1) (i := 0) (o := 0) (j := j) (by omega) (by omega) (.str [116, 117, 114, 110, 101, 100])
    simp only [Nat.zero_mul, Nat.add_zero] at hcs
    rw [hcs]
    by_cases e : j = 0
    · subst e
      rw [if_pos rfl]
      refine ⟨?_, ⟨by simp, by simp⟩⟩
      obtain ⟨c, cs', rfl⟩ : ∃ c cs', cs1 = c :: cs' := by
        cases cs1 with
        | nil => simp at hc1
        | cons c cs' => exact ⟨c, cs', rfl⟩
      rfl
    · rw [if_neg e]
      obtain ⟨i, rfl⟩ : ∃ i, j = i + 1 := ⟨j - 1, by omega⟩
      have := hj1 (i + 1) hj
      rw [List.getElem_cons_succ, List.getElem_tail]
      exact this
  have hne : u.names ≠ [116, 117, 114, 110, 101, 100] :: u.names.tail := by
    rw [tq.n]
    intro e
    have := (List.cons.inj e).1
    revert this
    decide
  simp -implicitDefEqProofs only [b9, b10, b11, u2, tq.right, Int.reduceBEq, gv5, go_sem]
  refine CW.mono (c_SameN (MonoE.un _ _ _ _ uK (r1.trans r2)) hsn hne) ?_
  rintro _ T3 ⟨rfl, r3'⟩
  simp -implicitDefEqProofs only [go_sem]
  refine CW.mono (c_known15 T3) ?_
  rintro _ T4 ⟨rfl, r4'⟩
  simp -implicitDefEqProofs only [go_sem]
  exact sK.trans (((sK0.trans (r1.trans r2)).trans r3').trans r4')
end Go.Proofs.YtbbjlbdmjikhbaaGreatDoor.AA
