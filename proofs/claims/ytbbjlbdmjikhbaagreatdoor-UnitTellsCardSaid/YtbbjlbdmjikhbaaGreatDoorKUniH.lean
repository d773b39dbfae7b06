/- The six laws. -/
import Derived.Test.YtbbjlbdmjikhbaaGreatDoorKUniG
set_option linter.unusedSimpArgs false
set_option linter.unusedVariables false
namespace Go.Proofs.YtbbjlbdmjikhbaaGreatDoor.AA
open Go Go.RowKit
attribute [local go_sem ↓] WP_seq WP_skip WP_region WP_dregion WP_cond WP_block WP_exit WP_ret OW_nil OW_cons DW_nil DW_cons XW_call reduceIte OW_guard DW_guard
attribute [local go_sem] XW exA KO_eq OptK_some EvK_some GW2_true GW2_false KS_normal KS_ret KS_exit KB_normal KB_ret KB_exit CP2_bool RP_ret putA_some putA_none ev_t ev_c evs evo wantA initA resA Tr.get_set vl chkOk cond_true cond_false Nat.add_zero Nat.mul_one Nat.one_mul Nat.zero_add Nat.zero_mul aggOf pInt binA unA intA beq_true beq_false Bool.not_true Bool.not_false Bool.not_eq_true and_self and_true true_and reduceIte Nat.reduceEqDiff Nat.succ_ne_self Nat.reduceAdd Nat.reduceMul Nat.reduceSub Nat.reduceBEq Nat.reduceLT Nat.reduceLeDiff Int.cast_ofNat_Int Int.reduceToNat Int.reduceLT Int.reduceLE Int.reduceGE Int.reduceGT Int.reduceEq Int.reduceNe Int.reduceAdd Int.reduceSub Int.reduceNeg decide_true decide_false Int.toNat_natCast reduceCtorEq List.nil_append List.cons_append AV.boxy AV.cells List.length_cons List.length_nil Nat.beq_refl AOp.cl KDW_0 KDW_1 KDW_2 OWskip_eq DWskip_eq fillA setAt DChk DAt stepA ble_dec beq_dec Bool.and_self Bool.and_true Bool.true_and Bool.and_false Bool.false_and List.take_succ_cons List.take_zero List.drop_succ_cons List.drop_zero List.take_nil List.drop_nil List.append_nil eqAV eqAVL BEq.rfl sameS Option.map Option.isNone wrap64 gt_iff_lt ge_iff_le Int.lt_irrefl Int.le_refl
set_option maxRecDepth 100000
set_option maxHeartbeats 4000000
attribute [local irreducible] Tr.set
theorem tape_row {H : AHeap} {l : List Int} {v : AV} (h : SlE InE 1 H l [v]) : TapeR (H.newRow [v, .int .i64 0]) H.next := by
 obtain ⟨a, s0, cl, rfl, -⟩ := h.shape
 exact ⟨H, l, a, s0, cl, 0, Nat.le_refl _, Chg.newRow H _, h, Nat.zero_le _, Arr.newRow H _ _⟩
theorem c_unitOf {H : AHeap} {l : List Int} {v : AV} (h : SlE InE 1 H l [v]) : CW MN 10 [.ptr (some (H.next, 0))] (H.newRow [v, .int .i64 0]) fun w H' => ∃ u cu, w = .agg cu ∧ UnE H' u cu ∧ TQ u ∧ Sm H H' :=
 (c_Unit (tape_row h)).mono fun w H' ⟨u, cu, h1, h2, h3, h4, h5⟩ => ⟨u, cu, h1, h2, h3.tq, Sm.of (by rw [show (H.newRow [v, .int .i64 0]).next = H.next + 1 from rfl] at h4; omega) fun z hz => by
  rw [h5 z (by rw [show (H.newRow [v, .int .i64 0]).next = H.next + 1 from rfl]; omega) (by omega), (Chg.newRow H _).gt hz]⟩
theorem TQ.main {u : UUnit} (h : TQ u) (k : Int) : unitP ⟨u.names, u.classes, u.methods, u.objects, k⟩ = if mainP ⟨u.names, u.classes, u.methods, u.objects, k⟩ = false then 15 else 0 := by
 have hr := h.right
 obtain ⟨l, S, tc⟩ := h.c
 have e1 : sizesP ⟨u.names, u.classes, u.methods, u.objects, k⟩ = true := decide_eq_true ⟨by rw [h.n]; decide, by rw [h.m9]; decide, by rw [h.m9]; decide, h.o1, by have := h.o5; show u.objects.length ≤ 40; omega⟩
 have e2 : namesP u.names = true := by rw [h.n]; exact names_ok
 have e3 : shapeP u.classes u.names.length u.methods.length = 0 := by rw [h.n, h.m9]; exact tc.shape
 have e4 : u.objects.all (objP ⟨u.names, u.classes, u.methods, u.objects, k⟩) = true := List.all_eq_true.2 fun o ho => h.obj ho
 have e5 : methodsP ⟨u.names, u.classes, u.methods, u.objects, k⟩ = 0 := h.meths
 unfold unitP
 dsimp only
 rw [e1, e2, e3, e4, e5]
 rfl
structure BoxW (H : AHeap) (u : UUnit) (b : Nat) (a1 : Option (Nat × Nat)) (s1 : Nat) (k1 : Bool) (a2 : Option (Nat × Nat)) (s2 : Nat) (k2 : Bool) (a3 : Option (Nat × Nat)) (s3 : Nat) (k3 : Bool) (a4 : Option (Nat × Nat)) (s4 : Nat) (k4 : Bool) : Prop where
 a : Arr H b [.slice a1 s1 u.names.length k1, .slice a2 s2 u.classes.length k2, .slice a3 s3 u.methods.length k3, .slice a4 s4 u.objects.length k4, .int .i64 u.main] fun _ => False
 u : UnE H u [.slice a1 s1 u.names.length k1, .slice a2 s2 u.classes.length k2, .slice a3 s3 u.methods.length k3, .slice a4 s4 u.objects.length k4, .int .i64 u.main]
section
variable {H : AHeap} {u : UUnit} {b : Nat} {a1 : Option (Nat × Nat)} {s1 : Nat} {k1 : Bool} {a2 : Option (Nat × Nat)} {s2 : Nat} {k2 : Bool} {a3 : Option (Nat × Nat)} {s3 : Nat} {k3 : Bool} {a4 : Option (Nat × Nat)} {s4 : Nat} {k4 : Bool}
theorem BoxW.sm {H' : AHeap} (h : BoxW H u b a1 s1 k1 a2 s2 k2 a3 s3 k3 a4 s4 k4) (s : Sm H H') : BoxW H' u b a1 s1 k1 a2 s2 k2 a3 s3 k3 a4 s4 k4 := ⟨h.a.sm s, MonoE.un _ _ _ _ h.u s⟩
theorem BoxW.lds (h : BoxW H u b a1 s1 k1 a2 s2 k2 a3 s3 k3 a4 s4 k4) : loadA H b 0 5 = some [.slice a1 s1 u.names.length k1, .slice a2 s2 u.classes.length k2, .slice a3 s3 u.methods.length k3, .slice a4 s4 u.objects.length k4, .int .i64 u.main] ∧ loadA H b 0 1 = some [.slice a1 s1 u.names.length k1] ∧ loadA H b 1 1 = some [.slice a2 s2 u.classes.length k2] ∧ loadA H b 2 1 = some [.slice a3 s3 u.methods.length k3] ∧ loadA H b 3 1 = some [.slice a4 s4 u.objects.length k4] ∧ loadA H b 4 1 = some [.int .i64 u.main] := by
 have r := h.a.rd
 have r0 := r.one (j := 0) rfl
 have r1 := r.one (j := 1) rfl
 have r2 := r.one (j := 2) rfl
 have r3 := r.one (j := 3) rfl
 have r4 := r.one (j := 4) rfl
 rw [Nat.zero_add] at r0 r1 r2 r3 r4
 exact ⟨r.load rfl, r0, r1, r2, r3, r4⟩
end
theorem BoxW.of {H : AHeap} {u : UUnit} {cu : List AV} (h : UnE H u cu) : ∃ a1 s1 k1 a2 s2 k2 a3 s3 k3 a4 s4 k4 H', cu = [.slice a1 s1 u.names.length k1, .slice a2 s2 u.classes.length k2, .slice a3 s3 u.methods.length k3, .slice a4 s4 u.objects.length k4, .int .i64 u.main] ∧ storeA (H.newRow [.slice none 1 0 true, .slice none 1 0 true, .slice none 1 0 true, .slice none 1 0 true, .int .i64 0]) H.next 0 [.slice a1 s1 u.names.length k1, .slice a2 s2 u.classes.length k2, .slice a3 s3 u.methods.length k3, .slice a4 s4 u.objects.length k4, .int .i64 u.main] = some H' ∧ Sm H H' ∧ H'.next = H.next + 1 ∧ BoxW H' u H.next a1 s1 k1 a2 s2 k2 a3 s3 k3 a4 s4 k4 := by
 obtain ⟨v1, v2, v3, v4, rfl, h0, q1, q2, q3, q4⟩ := id h
 obtain ⟨a1, s1, k1, rfl, -⟩ := q1.shape
 obtain ⟨a2, s2, k2, rfl, -⟩ := q2.shape
 obtain ⟨a3, s3, k3, rfl, -⟩ := q3.shape
 obtain ⟨a4, s4, k4, rfl, -⟩ := q4.shape
 obtain ⟨H', e, n, s, a⟩ := store_own H [.slice none 1 0 true, .slice none 1 0 true, .slice none 1 0 true, .slice none 1 0 true, .int .i64 0] [.slice a1 s1 u.names.length k1, .slice a2 s2 u.classes.length k2, .slice a3 s3 u.methods.length k3, .slice a4 s4 u.objects.length k4, .int .i64 u.main] rfl
 exact ⟨a1, s1, k1, a2, s2, k2, a3, s3, k3, a4, s4, k4, H', rfl, e, s, n, a, MonoE.un _ _ _ _ h s⟩
set_option maxHeartbeats 4000000
set_option maxHeartbeats 4000000
theorem fit_le (n : Int) : 0 ≤ fitP n ∧ fitP n ≤ 64 := by
 unfold fitP
 repeat' split
 all_goals omega
theorem words_le : ∀ (l : List UObj) (a : Int), 0 ≤ a → a + 64 * (l.length : Int) ≤ 1000000 → 0 ≤ l.foldl (fun a o => IntKind.i64.wrap (a + fitP (ofP o.fields.length))) a ∧ l.foldl (fun a o => IntKind.i64.wrap (a + fitP (ofP o.fields.length))) a ≤ a + 64 * (l.length : Int)
 | [], a, h, _ => by simp; exact h
 | o :: l, a, h, h2 => by
  have hf := fit_le (ofP o.fields.length)
  rw [List.length_cons] at h2
  have hw : IntKind.i64.wrap (a + fitP (ofP o.fields.length)) = a + fitP (ofP o.fields.length) := wrap64 (by omega) (by omega)
  rw [List.foldl_cons, hw, List.length_cons]
  have := words_le l (a + fitP (ofP o.fields.length)) (by omega) (by omega)
  omega
def moreU (u : UUnit) (k : Nat) : UUnit := ⟨u.names, u.classes, u.methods, u.objects ++ [⟨1, List.replicate k (0, 0)⟩], u.main⟩
theorem TQ.words {u : UUnit} (h : TQ u) (k : Nat) : 0 ≤ wordsP u ∧ wordsP u ≤ 1000 ∧ wordsP (moreU u k) = wordsP u + fitP (ofP k) := by
 have h1 := words_le u.objects 0 (by omega) (by have := h.o5; omega)
 have h5 := h.o5
 have hf := fit_le (ofP k)
 have hw : wordsP u = u.objects.foldl (fun a o => IntKind.i64.wrap (a + fitP (ofP o.fields.length))) 0 := rfl
 refine ⟨by rw [hw]; exact h1.1, by rw [hw]; omega, ?_⟩
 show wordsL (u.objects ++ [⟨1, List.replicate k (0, 0)⟩]) = _
 unfold wordsL
 rw [List.foldl_append, hw]
 simp only [List.foldl_cons, List.foldl_nil, List.length_replicate]
 exact wrap64 (by omega) (by omega)
theorem TQ.more {u : UUnit} (h : TQ u) {k : Nat} (hk : k ≤ 62) : unitP (moreU u k) = 0 := by
 obtain ⟨l, S, tc⟩ := h.c
 have n3 := tc.f.n3; have hn := tc.n
 have hl : (moreU u k).objects.length = u.objects.length + 1 := by simp [moreU]
 have e1 : sizesP (moreU u k) = true := decide_eq_true ⟨by show u.names.length ≤ 48; rw [h.n]; decide, by show 1 ≤ u.methods.length; rw [h.m9]; decide, by show u.methods.length ≤ 32; rw [h.m9]; decide, by omega, by have := h.o5; omega⟩
 have e2 : namesP (moreU u k).names = true := by show namesP u.names = true; rw [h.n]; exact names_ok
 have e3 : shapeP (moreU u k).classes (moreU u k).names.length (moreU u k).methods.length = 0 := by show shapeP u.classes u.names.length u.methods.length = 0; rw [h.n, h.m9]; exact tc.shape
 have e5 : methodsP (moreU u k) = 0 := h.meths
 have e6 : mainP (moreU u k) = true := by
  show (decide (0 ≤ u.main ∧ u.main < u.methods.length) && decide ((mAt u u.main.toNat).args = 0)) = true
  rw [h.m, h.m9, show (6 : Int).toNat = 6 from rfl, h.argsQ (by omega)]; rfl
 have e4 : (moreU u k).objects.all (objP (moreU u k)) = true := List.all_eq_true.2 fun o ho => by
  rcases List.mem_append.1 (show o ∈ u.objects ++ [⟨1, List.replicate k (0, 0)⟩] from ho) with ho | ho
  ·have hp := h.obj ho
   unfold objP at hp ⊢
   have hp' := Bool.and_eq_true _ _ ▸ hp
   have h1 : decide (1 ≤ o.cls ∧ o.cls < (moreU u k).classes.length ∧ o.fields.length ≤ 62 ∧ (1 < o.cls → (o.fields.length : Int) = (clAt (moreU u k).classes o.cls).fields)) = true := hp'.1
   rw [h1, Bool.true_and]
   refine List.all_eq_true.2 fun v hv => ?_
   have hv' := List.all_eq_true.1 hp'.2 v hv
   unfold valP at hv' ⊢
   by_cases q1 : v.1 = 0 ∨ v.1 = 1 ∨ v.1 = 2
   ·rw [if_pos q1] at hv' ⊢; exact hv'
   rw [if_neg q1] at hv' ⊢
   by_cases q2 : v.1 = 3
   ·rw [if_pos q2] at hv' ⊢; exact hv'
   rw [if_neg q2] at hv' ⊢
   by_cases q3 : v.1 = 4
   ·rw [if_pos q3] at hv' ⊢
    have := of_decide_eq_true hv'
    exact decide_eq_true (by omega)
   rw [if_neg q3] at hv'
   cases hv'
  ·obtain rfl : o = ⟨1, List.replicate k (0, 0)⟩ := by simpa using ho
   unfold objP
   rw [decide_eq_true, Bool.true_and]
   ·refine List.all_eq_true.2 fun v hv => ?_
    rw [(List.mem_replicate.1 hv).2]; rfl
   ·refine ⟨by dsimp only; omega, ?_, by rw [List.length_replicate]; exact hk, fun h => absurd h (by dsimp only; omega)⟩
    show (1 : Int) < (u.classes.length : Int)
    omega
 unfold unitP
 rw [e1, e2, e3, e4, e5, e6]
 rfl
set_option maxHeartbeats 4000000
theorem TQ.sm {u : UUnit} (h : TQ u) : SmU 64 u ∧ GeU u := by
 obtain ⟨l, S, tc⟩ := h.c
 have n3 := tc.f.n3; have n5 := tc.f.n5; have hn := tc.n
 have hm : ∀ m, m ∈ u.methods → ∃ a, methOk u.classes.length a m := fun m hm => by
  obtain ⟨j, hj, rfl⟩ := List.mem_iff_getElem.1 hm
  have := h.ma j (by have := h.m9; omega)
  rw [mAt_nat hj] at this
  exact ⟨_, this⟩
 refine ⟨⟨by rw [h.n]; decide, by omega, by rw [h.m9]; decide, by have := h.o5; omega, fun c hc => ?_, fun m hx => ?_, fun m hx => ?_, fun o ho => ?_⟩, ⟨by omega, by rw [h.m9]; decide, h.o1⟩⟩
 ·rcases tc.bind hc with e | ⟨S, e⟩
  ·rw [e]; decide
  ·rw [e]; have := selS_len S 6; omega
 ·obtain ⟨a, h1⟩ := hm m hx
  rw [h1.2.2.1.len]; decide
 ·obtain ⟨a, -, -, -, l, e, h4, -, -, h7⟩ := hm m hx
  rw [h4, flatI_len, List.length_append, List.length_singleton]; omega
 ·have hp := h.obj ho
  unfold objP at hp
  have hs2 := of_decide_eq_true (Bool.and_eq_true _ _ ▸ hp).1
  omega
theorem c_UnitTells {H : AHeap} {l : List Int} {v : AV} (h : SlE InE 1 H l [v]) {x : UUnit} {cx : List AV} (hx : UnE H x cx) (hxb : BndU (fewU x)) {what at' n cls sel : Int} (ha : I64 at') (hn : I64 n) (hc : I64 cls) : CW MN 4 [v, .int .i64 what, .int .i64 at', .int .i64 n, .agg cx, .int .i64 cls, .int .i64 sel] H fun w H' => w = .bool true ∧ Sm H H' := by
 refine CW_of (fn := af4) rfl ?_
 dsimp only [af4, qm, q, qG, qn, qi, qb, qB, qk, qc, qo, qg, qv, qr]
 obtain ⟨la, ls, lk, rfl, -⟩ := h.shape
 obtain ⟨b1, b2, b3, b4, bx, rfl⟩ := BoxU.of hx
 have s0 := Chg.newRow H [b1, b2, b3, b4, .int .i64 x.main]
 have hn0 : (H.newRow [b1, b2, b3, b4, .int .i64 x.main]).next = H.next + 1 := rfl
 generalize eH0 : H.newRow [b1, b2, b3, b4, .int .i64 x.main] = H0 at s0 hn0 bx
 simp -implicitDefEqProofs only [eH0, go_sem]
 refine CW.mono (c_unitOf (MonoE.enc.sl _ _ _ _ h s0)) ?_
 rintro _ K0 ⟨u, cu, rfl, hu, tq, sK⟩
 obtain ⟨a1, s1, k1, a2, s2, k2, a3, s3, k3, a4, s4, k4, K1, rfl, e1, sm1, n1, bw⟩ := BoxW.of hu
 have bx1 := (bx.sm sK).sm sm1
 have ax1 := bx1.all
 simp -implicitDefEqProofs only [e1, ax1, go_sem]
 refine CW.mono (c_few bx1.un) ?_
 rintro _ K2 ⟨cf, rfl, hf, t2⟩
 obtain ⟨a1', s1', k1', a2', s2', k2', a3', s3', k3', a4', s4', k4', K3, rfl, e3, sm3, n3, bf⟩ := BoxW.of hf
 have W := ((bw.sm t2).sm sm3)
 obtain ⟨d5, -⟩ := W.lds
 obtain ⟨f5, -⟩ := bf.lds
 obtain ⟨smU, geU⟩ := tq.sm
 obtain ⟨v1, hv1, w1⟩ := and_le cls 7 (by decide) (by decide)
 obtain ⟨v2, hv2, w2⟩ := and_le sel 7 (by decide) (by decide)
 have w1' : IntKind.i64.wrap ((v1 : Int) - 1) = (v1 : Int) - 1 := wrap64 (by omega) (by omega)
 have w2' : IntKind.i64.wrap ((v2 : Int) - 1) = (v2 : Int) - 1 := wrap64 (by omega) (by omega)
 obtain ⟨v3, hv3, w3⟩ := and_le at' 31 (by decide) (by decide)
 obtain ⟨v4, hv4, w4⟩ := and_le n 31 (by decide) (by decide)
 obtain ⟨v5, hv5, w5⟩ := and_le n 15 (by decide) (by decide)
 obtain ⟨v6, hv6, w6⟩ := and_le what 15 (by decide) (by decide)
 have i64n : ∀ k : Nat, (k : Int) ≤ 31 → I64 (k : Int) := fun k hk => by unfold I64; omega
 simp -implicitDefEqProofs only [e3, d5, f5, w1, w2, w1', w2', w3, w4, w5, w6, ↓WP_seq, ↓WP_skip, ↓WP_region, ↓WP_dregion, ↓WP_cond, ↓WP_block, ↓WP_exit, ↓WP_ret, ↓OW_nil, ↓OW_cons, ↓DW_nil, ↓DW_cons, ↓XW_call, XW, exA, KO_eq, OptK_some, EvK_some, GW2_true, GW2_false, KS_normal, KS_ret, KS_exit, KB_normal, KB_ret, KB_exit, CP2_bool, RP_ret, putA_some, putA_none, ev_t, ev_c, evs, evo, wantA, initA, resA, Tr.get_set, vl, chkOk, cond_true, cond_false, Nat.add_zero, Nat.mul_one, Nat.one_mul, Nat.zero_add, Nat.zero_mul, aggOf, pInt, binA, unA, intA, beq_true, beq_false, Bool.not_true, Bool.not_false, Bool.not_eq_true, and_self, and_true, true_and, ↓reduceIte, reduceIte, Nat.reduceEqDiff, Nat.succ_ne_self, Nat.reduceAdd, Nat.reduceMul, Nat.reduceSub, Nat.reduceBEq, Nat.reduceLT, Nat.reduceLeDiff, Int.cast_ofNat_Int, Int.reduceToNat, Int.reduceLT, Int.reduceLE, Int.reduceGE, Int.reduceGT, Int.reduceEq, Int.reduceNe, Int.reduceAdd, Int.reduceSub, Int.reduceNeg, decide_true, decide_false, Int.toNat_natCast, reduceCtorEq, List.nil_append, List.cons_append, AV.boxy, AV.cells, List.length_cons, List.length_nil, Nat.beq_refl, AOp.cl, ↓OW_guard, ↓DW_guard, KDW_0, KDW_1, KDW_2, OWskip_eq, DWskip_eq, fillA, setAt, DChk, DAt, stepA, ble_dec, beq_dec, Bool.and_self, Bool.and_true, Bool.true_and, Bool.and_false, Bool.false_and, List.take_succ_cons, List.take_zero, List.drop_succ_cons, List.drop_zero, List.take_nil, List.drop_nil, List.append_nil, eqAV, eqAVL, BEq.rfl, sameS, Option.map, Option.isNone, wrap64, gt_iff_lt, ge_iff_le, Int.lt_irrefl, Int.le_refl]
 refine CW.mono (c_lsame W.u (smU.bnd (by omega)) (by unfold I64; omega) _) ?_
 rintro _ G1 ⟨rfl, t4⟩
 have W1 := W.sm t4
 obtain ⟨d5a, -⟩ := W1.lds
 simp -implicitDefEqProofs only [d5a, w1, w2, w1', w2', w3, w4, w5, w6, ↓WP_seq, ↓WP_skip, ↓WP_region, ↓WP_dregion, ↓WP_cond, ↓WP_block, ↓WP_exit, ↓WP_ret, ↓OW_nil, ↓OW_cons, ↓DW_nil, ↓DW_cons, ↓XW_call, XW, exA, KO_eq, OptK_some, EvK_some, GW2_true, GW2_false, KS_normal, KS_ret, KS_exit, KB_normal, KB_ret, KB_exit, CP2_bool, RP_ret, putA_some, putA_none, ev_t, ev_c, evs, evo, wantA, initA, resA, Tr.get_set, vl, chkOk, cond_true, cond_false, Nat.add_zero, Nat.mul_one, Nat.one_mul, Nat.zero_add, Nat.zero_mul, aggOf, pInt, binA, unA, intA, beq_true, beq_false, Bool.not_true, Bool.not_false, Bool.not_eq_true, and_self, and_true, true_and, ↓reduceIte, reduceIte, Nat.reduceEqDiff, Nat.succ_ne_self, Nat.reduceAdd, Nat.reduceMul, Nat.reduceSub, Nat.reduceBEq, Nat.reduceLT, Nat.reduceLeDiff, Int.cast_ofNat_Int, Int.reduceToNat, Int.reduceLT, Int.reduceLE, Int.reduceGE, Int.reduceGT, Int.reduceEq, Int.reduceNe, Int.reduceAdd, Int.reduceSub, Int.reduceNeg, decide_true, decide_false, Int.toNat_natCast, reduceCtorEq, List.nil_append, List.cons_append, AV.boxy, AV.cells, List.length_cons, List.length_nil, Nat.beq_refl, AOp.cl, ↓OW_guard, ↓DW_guard, KDW_0, KDW_1, KDW_2, OWskip_eq, DWskip_eq, fillA, setAt, DChk, DAt, stepA, ble_dec, beq_dec, Bool.and_self, Bool.and_true, Bool.true_and, Bool.and_false, Bool.false_and, List.take_succ_cons, List.take_zero, List.drop_succ_cons, List.drop_zero, List.take_nil, List.drop_nil, List.append_nil, eqAV, eqAVL, BEq.rfl, sameS, Option.map, Option.isNone, wrap64, gt_iff_lt, ge_iff_le, Int.lt_irrefl, Int.le_refl]
 refine CW.mono (c_oddUnit W1.u smU geU (by omega) (by omega) what at' n ha hn) ?_
 rintro _ G2 ⟨o1, co1, rfl, ho1, so1, go1, t5⟩
 simp -implicitDefEqProofs only [go_sem]
 refine CW.mono (c_lsame ho1 (so1.bnd (by omega)) hc _) ?_
 rintro _ G3 ⟨rfl, t6⟩
 have W3 := (W1.sm t5).sm t6
 obtain ⟨d5b, -⟩ := W3.lds
 simp -implicitDefEqProofs only [d5b, w1, w2, w1', w2', w3, w4, w5, w6, ↓WP_seq, ↓WP_skip, ↓WP_region, ↓WP_dregion, ↓WP_cond, ↓WP_block, ↓WP_exit, ↓WP_ret, ↓OW_nil, ↓OW_cons, ↓DW_nil, ↓DW_cons, ↓XW_call, XW, exA, KO_eq, OptK_some, EvK_some, GW2_true, GW2_false, KS_normal, KS_ret, KS_exit, KB_normal, KB_ret, KB_exit, CP2_bool, RP_ret, putA_some, putA_none, ev_t, ev_c, evs, evo, wantA, initA, resA, Tr.get_set, vl, chkOk, cond_true, cond_false, Nat.add_zero, Nat.mul_one, Nat.one_mul, Nat.zero_add, Nat.zero_mul, aggOf, pInt, binA, unA, intA, beq_true, beq_false, Bool.not_true, Bool.not_false, Bool.not_eq_true, and_self, and_true, true_and, ↓reduceIte, reduceIte, Nat.reduceEqDiff, Nat.succ_ne_self, Nat.reduceAdd, Nat.reduceMul, Nat.reduceSub, Nat.reduceBEq, Nat.reduceLT, Nat.reduceLeDiff, Int.cast_ofNat_Int, Int.reduceToNat, Int.reduceLT, Int.reduceLE, Int.reduceGE, Int.reduceGT, Int.reduceEq, Int.reduceNe, Int.reduceAdd, Int.reduceSub, Int.reduceNeg, decide_true, decide_false, Int.toNat_natCast, reduceCtorEq, List.nil_append, List.cons_append, AV.boxy, AV.cells, List.length_cons, List.length_nil, Nat.beq_refl, AOp.cl, ↓OW_guard, ↓DW_guard, KDW_0, KDW_1, KDW_2, OWskip_eq, DWskip_eq, fillA, setAt, DChk, DAt, stepA, ble_dec, beq_dec, Bool.and_self, Bool.and_true, Bool.true_and, Bool.and_false, Bool.false_and, List.take_succ_cons, List.take_zero, List.drop_succ_cons, List.drop_zero, List.take_nil, List.drop_nil, List.append_nil, eqAV, eqAVL, BEq.rfl, sameS, Option.map, Option.isNone, wrap64, gt_iff_lt, ge_iff_le, Int.lt_irrefl, Int.le_refl]
 refine CW.mono (c_oddUnit W3.u smU geU (by omega) (by omega) what _ _ (i64n v3 (by omega)) (i64n v4 (by omega))) ?_
 rintro _ G4 ⟨o2, co2, rfl, ho2, so2, go2, t7⟩
 simp -implicitDefEqProofs only [w1, w2, ↓WP_seq, ↓WP_skip, ↓WP_region, ↓WP_dregion, ↓WP_cond, ↓WP_block, ↓WP_exit, ↓WP_ret, ↓OW_nil, ↓OW_cons, ↓DW_nil, ↓DW_cons, ↓XW_call, XW, exA, KO_eq, OptK_some, EvK_some, GW2_true, GW2_false, KS_normal, KS_ret, KS_exit, KB_normal, KB_ret, KB_exit, CP2_bool, RP_ret, putA_some, putA_none, ev_t, ev_c, evs, evo, wantA, initA, resA, Tr.get_set, vl, chkOk, cond_true, cond_false, Nat.add_zero, Nat.mul_one, Nat.one_mul, Nat.zero_add, Nat.zero_mul, aggOf, pInt, binA, unA, intA, beq_true, beq_false, Bool.not_true, Bool.not_false, Bool.not_eq_true, and_self, and_true, true_and, ↓reduceIte, reduceIte, Nat.reduceEqDiff, Nat.succ_ne_self, Nat.reduceAdd, Nat.reduceMul, Nat.reduceSub, Nat.reduceBEq, Nat.reduceLT, Nat.reduceLeDiff, Int.cast_ofNat_Int, Int.reduceToNat, Int.reduceLT, Int.reduceLE, Int.reduceGE, Int.reduceGT, Int.reduceEq, Int.reduceNe, Int.reduceAdd, Int.reduceSub, Int.reduceNeg, decide_true, decide_false, Int.toNat_natCast, reduceCtorEq, List.nil_append, List.cons_append, AV.boxy, AV.cells, List.length_cons, List.length_nil, Nat.beq_refl, AOp.cl, ↓OW_guard, ↓DW_guard, KDW_0, KDW_1, KDW_2, OWskip_eq, DWskip_eq, fillA, setAt, DChk, DAt, stepA, ble_dec, beq_dec, Bool.and_self, Bool.and_true, Bool.true_and, Bool.and_false, Bool.false_and, List.take_succ_cons, List.take_zero, List.drop_succ_cons, List.drop_zero, List.take_nil, List.drop_nil, List.append_nil, eqAV, eqAVL, BEq.rfl, sameS, Option.map, Option.isNone, wrap64, gt_iff_lt, ge_iff_le, Int.lt_irrefl, Int.le_refl]
 refine CW.mono (c_lsame ho2 (so2.bnd (by omega)) (i64n v1 (by omega)) _) ?_
 rintro _ G5 ⟨rfl, t8⟩
 have W5 := (W3.sm t7).sm t8
 obtain ⟨d5c, -⟩ := W5.lds
 simp -implicitDefEqProofs only [d5c, w1, w2, w3, w4, w5, w6, ↓WP_seq, ↓WP_skip, ↓WP_region, ↓WP_dregion, ↓WP_cond, ↓WP_block, ↓WP_exit, ↓WP_ret, ↓OW_nil, ↓OW_cons, ↓DW_nil, ↓DW_cons, ↓XW_call, XW, exA, KO_eq, OptK_some, EvK_some, GW2_true, GW2_false, KS_normal, KS_ret, KS_exit, KB_normal, KB_ret, KB_exit, CP2_bool, RP_ret, putA_some, putA_none, ev_t, ev_c, evs, evo, wantA, initA, resA, Tr.get_set, vl, chkOk, cond_true, cond_false, Nat.add_zero, Nat.mul_one, Nat.one_mul, Nat.zero_add, Nat.zero_mul, aggOf, pInt, binA, unA, intA, beq_true, beq_false, Bool.not_true, Bool.not_false, Bool.not_eq_true, and_self, and_true, true_and, ↓reduceIte, reduceIte, Nat.reduceEqDiff, Nat.succ_ne_self, Nat.reduceAdd, Nat.reduceMul, Nat.reduceSub, Nat.reduceBEq, Nat.reduceLT, Nat.reduceLeDiff, Int.cast_ofNat_Int, Int.reduceToNat, Int.reduceLT, Int.reduceLE, Int.reduceGE, Int.reduceGT, Int.reduceEq, Int.reduceNe, Int.reduceAdd, Int.reduceSub, Int.reduceNeg, decide_true, decide_false, Int.toNat_natCast, reduceCtorEq, List.nil_append, List.cons_append, AV.boxy, AV.cells, List.length_cons, List.length_nil, Nat.beq_refl, AOp.cl, ↓OW_guard, ↓DW_guard, KDW_0, KDW_1, KDW_2, OWskip_eq, DWskip_eq, fillA, setAt, DChk, DAt, stepA, ble_dec, beq_dec, Bool.and_self, Bool.and_true, Bool.true_and, Bool.and_false, Bool.false_and, List.take_succ_cons, List.take_zero, List.drop_succ_cons, List.drop_zero, List.take_nil, List.drop_nil, List.append_nil, eqAV, eqAVL, BEq.rfl, sameS, Option.map, Option.isNone, wrap64, gt_iff_lt, ge_iff_le, Int.lt_irrefl, Int.le_refl]
 refine CW.mono (c_oddUnit W5.u smU geU (by omega) (by omega) what _ _ (i64n v3 (by omega)) (i64n v5 (by omega))) ?_
 rintro _ G6 ⟨o3, co3, rfl, ho3, so3, go3, t9⟩
 simp -implicitDefEqProofs only [w3, w6, ↓WP_seq, ↓WP_skip, ↓WP_region, ↓WP_dregion, ↓WP_cond, ↓WP_block, ↓WP_exit, ↓WP_ret, ↓OW_nil, ↓OW_cons, ↓DW_nil, ↓DW_cons, ↓XW_call, XW, exA, KO_eq, OptK_some, EvK_some, GW2_true, GW2_false, KS_normal, KS_ret, KS_exit, KB_normal, KB_ret, KB_exit, CP2_bool, RP_ret, putA_some, putA_none, ev_t, ev_c, evs, evo, wantA, initA, resA, Tr.get_set, vl, chkOk, cond_true, cond_false, Nat.add_zero, Nat.mul_one, Nat.one_mul, Nat.zero_add, Nat.zero_mul, aggOf, pInt, binA, unA, intA, beq_true, beq_false, Bool.not_true, Bool.not_false, Bool.not_eq_true, and_self, and_true, true_and, ↓reduceIte, reduceIte, Nat.reduceEqDiff, Nat.succ_ne_self, Nat.reduceAdd, Nat.reduceMul, Nat.reduceSub, Nat.reduceBEq, Nat.reduceLT, Nat.reduceLeDiff, Int.cast_ofNat_Int, Int.reduceToNat, Int.reduceLT, Int.reduceLE, Int.reduceGE, Int.reduceGT, Int.reduceEq, Int.reduceNe, Int.reduceAdd, Int.reduceSub, Int.reduceNeg, decide_true, decide_false, Int.toNat_natCast, reduceCtorEq, List.nil_append, List.cons_append, AV.boxy, AV.cells, List.length_cons, List.length_nil, Nat.beq_refl, AOp.cl, ↓OW_guard, ↓DW_guard, KDW_0, KDW_1, KDW_2, OWskip_eq, DWskip_eq, fillA, setAt, DChk, DAt, stepA, ble_dec, beq_dec, Bool.and_self, Bool.and_true, Bool.true_and, Bool.and_false, Bool.false_and, List.take_succ_cons, List.take_zero, List.drop_succ_cons, List.drop_zero, List.take_nil, List.drop_nil, List.append_nil, eqAV, eqAVL, BEq.rfl, sameS, Option.map, Option.isNone, wrap64, gt_iff_lt, ge_iff_le, Int.lt_irrefl, Int.le_refl]
 refine CW.mono (c_oddUnit ho3 so3 go3 (by omega) (by omega) n _ _ (i64n v3 (by omega)) (i64n v6 (by omega))) ?_
 rintro _ G7 ⟨o4, co4, rfl, ho4, so4, go4, t10⟩
 simp -implicitDefEqProofs only [go_sem]
 refine CW.mono (c_lsame ho4 (so4.bnd (by omega)) (by simp [I64]) _) ?_
 rintro _ G8 ⟨rfl, t11⟩
 have T := (((((((t4.trans t5).trans t6).trans t7).trans t8).trans t9).trans t10).trans t11)
 have F8 := bf.sm T
 obtain ⟨f5a, -⟩ := F8.lds
 simp -implicitDefEqProofs only [f5a, go_sem]
 refine CW.mono (c_lsame F8.u hxb hc _) ?_
 rintro _ G9 ⟨rfl, t12⟩
 have F9 := F8.sm t12
 obtain ⟨f5b, -⟩ := F9.lds
 have W9 := ((W.sm T).sm t12)
 obtain ⟨d5d, -⟩ := W9.lds
 simp -implicitDefEqProofs only [f5b, d5d, go_sem]
 refine CW.mono (c_Same W9.u F9.u) ?_
 rintro _ G10 ⟨rfl, t13⟩
 have F10 := F9.sm t13
 obtain ⟨f5c, -⟩ := F10.lds
 have W10 := W9.sm t13
 obtain ⟨d5e, -⟩ := W10.lds
 simp -implicitDefEqProofs only [f5c, d5e, go_sem]
 refine CW.mono (c_rSame W10.u F10.u) ?_
 rintro _ G11 ⟨rfl, t14⟩
 have eb : eqA (.sc .bool) (.bool (decide (u = fewU x))) (.bool (decide (u = fewU x))) = some true := by
  cases decide (u = fewU x) <;> decide
 simp -implicitDefEqProofs only [eb, go_sem]
 refine CW.mono (c_known15 G11) ?_
 rintro _ G12 ⟨rfl, t15⟩
 simp -implicitDefEqProofs only [d5, d5a, d5b, d5c, d5d, d5e, f5, f5a, f5b, f5c, go_sem]
 exact (((((((s0.trans sK).trans sm1).trans t2).trans sm3).trans T).trans t12).trans t13).trans (t14.trans t15)
set_option maxHeartbeats 4000000
set_option maxHeartbeats 4000000
theorem CpR.unK {H0 H' G : AHeap} {u : UUnit} {cu : List AV} (h : CpR H0 H' u cu) (k : KpM H0.next H' G) : UnE G u cu := by
 obtain ⟨lo, H1, H2, H3, v1, v2, v3, v4, rfl, hm, l0, l1, s, o1, k1, g2, l2, k23, g3, k3, g4, m2, m3, m4⟩ := h
 have q1 := k1.1; have q2 := k23.1; have q3 := k3.1
 exact ⟨v1, v2, v3, v4, rfl, hm, (o1.kp (Nat.le_refl _) (k1.trans (k.up (by omega)))).slE, (g2.kp ClO.mono (Nat.le_refl _) ((k23.trans k3).trans (k.up (by omega)))).slE ClO.cl m2, (g3.kp MeO.mono (m := H1.next) (by omega) (k3.trans (k.up (by omega)))).slE MeO.me m3, (g4.kp ObO.mono (m := H0.next) (by omega) k).slE ObO.ob m4⟩
theorem Arr.eq {H : AHeap} {x : Nat} {cs cs' : List AV} {P P' : Nat → Prop} (h : Arr H x cs P) (h' : Arr H x cs' P') : cs = cs' := by
 obtain ⟨-, c, par, hc, hf, -⟩ := h
 obtain ⟨-, c', par', hc', hf', -⟩ := h'
 rw [hc] at hc'
 injection hc' with e1 e2 e3 e4
 subst e1
 refine List.ext_getElem e2 fun j h1 h2 => ?_
 have a1 := hf j cs[j] (List.getElem?_eq_getElem h1)
 have a2 := hf' j cs'[j] (List.getElem?_eq_getElem h2)
 rw [a1] at a2
 exact Option.some.inj a2
theorem FA.st2 {H : AHeap} {x n i : Nat} {f : Nat → AV} (h : FA H x n f fun _ => False) (hi : i + 2 ≤ n) (a b : AV) : ∃ H', storeA H x i [a, b] = some H' ∧ H'.next = H.next ∧ FA H' x n (fun j => if j = i then a else if j = i + 1 then b else f j) (fun _ => False) ∧ ∀ y, y ≠ x → H'.get y = H.get y := by
 obtain ⟨hx, c, par, hc, hf, hp⟩ := h
 refine ⟨(killAll H par).put x (.cells (ofL [a, b] i c) n true []), ?_, by rw [next_put, next_killAll], ⟨by rw [next_put, next_killAll]; exact hx, ofL [a, b] i c, [], by rw [get_put, if_pos rfl], fun j hj => ?_, by simp⟩, fun y hy => ?_⟩
 ·unfold storeA
  rw [hc]
  have : (i + [a, b].length).ble n = true := Nat.ble_eq_true_of_le (by simp; omega)
  simp only [this, cond_true]
 ·rw [get_ofL]
  by_cases h1 : j = i
  ·subst h1
   rw [if_pos (by simp)]; simp
  ·by_cases h2 : j = i + 1
   ·subst h2
    rw [if_pos (by simp)]
    show _ = some (if i + 1 = i then a else if i + 1 = i + 1 then b else f (i + 1))
    rw [if_neg (by omega), if_pos rfl, show i + 1 - i = 1 by omega]; rfl
   ·show _ = some (if j = i then a else if j = i + 1 then b else f j)
    rw [if_neg (by simp; omega), if_neg h1, if_neg h2]
    exact hf j hj
 ·rw [get_put, if_neg (Ne.symm hy), get_killAll _ _ _ (fun e => hp y e)]
end Go.Proofs.YtbbjlbdmjikhbaaGreatDoor.AA
