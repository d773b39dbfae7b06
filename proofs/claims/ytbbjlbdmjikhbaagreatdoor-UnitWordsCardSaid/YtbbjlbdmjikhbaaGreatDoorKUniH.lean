/- The six laws. -/
import Derived.Test.YtbbjlbdmjikhbaaGreatDoorKUniG
set_option linter.unusedSimpArgs false
set_option linter.unusedVariables false
namespace Go.Proofs.YtbbjlbdmjikhbaaGreatDoor.AA
open Go Go.RowKit
attribute [local go_sem ↓] WP_seq WP_skip WP_region WP_dregion WP_cond WP_block WP_exit WP_ret OW_nil OW_cons DW_nil DW_cons XW_call reduceIte OW_guard DW_guard
attribute [local go_sem] XW exA KO_eq OptK_some EvK_some GW2_true GW2_false KS_normal KS_ret KS_exit KB_normal KB_ret KB_exit CP2_bool RP_ret putA_some putA_none ev_t ev_c evs evo wantA initA resA Tr.get_set vl chkOk cond_true cond_false Nat.add_zero Nat.mul_one Nat.one_mul Nat.zero_add Nat.zero_mul aggOf pInt binA unA intA beq_true beq_false Bool.not_true Bool.not_false Bool.not_eq_true and_self and_true true_and reduceIte Nat.reduceEqDiff Nat.succ_ne_self Nat.reduceAdd Nat.reduceMul Nat.reduceSub Nat.reduceBEq Nat.reduceLT Nat.reduceLeDiff Int.cast_ofNat_Int Int.reduceToNat Int.reduceLT Int.reduceLE Int.reduceGE Int.reduceGT Int.reduceEq Int.reduceNe Int.reduceAdd Int.reduceSub Int.reduceNeg decide_true decide_false Int.toNat_natCast reduceCtorEq List.nil_append List.cons_append AV.boxy AV.cells List.length_cons List.length_nil Nat.beq_refl AOp.cl KDW_0 KDW_1 KDW_2 OWskip_eq DWskip_eq fillA setAt DChk DAt stepA ble_dec beq_dec Bool.and_self Bool.and_true Bool.true_and Bool.and_false Bool.false_and List.take_succ_cons List.take_zero List.drop_succ_cons List.drop_zero List.take_nil List.drop_nil List.append_nil eqAV eqAVL BEq.rfl sameS Option.map Option.isNone wrap64 gt_iff_lt ge_iff_le Int.lt_irrefl Int.le_refl
set_option maxRecDepth 100000
set_option maxHeartbeats 4000000
attribute [local irreducible] Tr.set
theorem tape_row {H : AHeap} {l : List Int} {v : AV} (h : SlE InE 1 H l [v]) : TapeR (H.newRow [v, .int .i64 0]) H.next := by
  obtain ⟨a, s0, cl, rfl, -⟩ := h.shape
  exact ⟨H, l, a, s0, cl, 0, Nat.le_refl _, Chg.newRow H _, h, Nat.zero_le _, Arr.newRow H _ _⟩
/-- A program off a tape that comes in. -/
theorem c_unitOf {H : AHeap} {l : List Int} {v : AV} (h : SlE InE 1 H l [v]) : CW MN 10 [.ptr (some (H.next, 0))] (H.newRow [v, .int .i64 0]) fun w H' => ∃ u cu, w = .agg cu ∧ UnE H' u cu ∧ TQ u ∧ Sm H H' :=
  (c_Unit (tape_row h)).mono fun w H' ⟨u, cu, h1, h2, h3, h4, h5⟩ => ⟨u, cu, h1, h2, h3.tq, Sm.of (by rw [show (H.newRow [v, .int .i64 0]).next = H.next + 1 from rfl] at h4; omega) fun z hz => by
    rw [h5 z (by rw [show (H.newRow [v, .int .i64 0]).next = H.next + 1 from rfl]; omega) (by omega), (Chg.newRow H _).gt hz]⟩
theorem TQ.main {u : UUnit} (h : TQ u) (k : Int) : unitP ⟨u.names, u.classes, u.methods, u.objects, k⟩ = if mainP ⟨u.names, u.classes, u.methods, u.objects, k⟩ = false then 15 else 0 := by
  have hr := h.right
  obtain ⟨l, S, tc⟩ := h.c
  have e1 : sizesP ⟨u.names, u.classes, u.methods, u.objects, k⟩ = true := decide_eq_true ⟨by rw [h.n]; decide, by rw [h.m9]; decide, by rw [h.m9]; decide, h.o1, by have := h.o5; show u.objects.length ≤ 40; omega⟩
  have e2 : namesP u.names = true := by rw [h.n]; exact names_ok
  have e3 : shapeP u.classes u.names.length u.methods.length = 0 := by rw [h.n, h.m9]; exact tc.shape
  have e4 : u.objects.all (objP ⟨u.names, u.classes, u.methods, u.objects, k⟩) = true := List.all_eq_true.2 fun o ho => h.obj ho
  have e5 : methodsP ⟨u.names, u.classes, u.methods, u.objects, k⟩ = 0 := h.meths
  unfold unitP
  dsimp only
  rw [e1, e2, e3, e4, e5]
  rfl
/-- The program, in a block of its own, to be written. -/
structure BoxW (H : AHeap) (u : UUnit) (b : Nat) (a1 : Option (Nat × Nat)) (s1 : Nat) (k1 : Bool) (a2 : Option (Nat × Nat)) (s2 : Nat) (k2 : Bool) (a3 : Option (Nat × Nat)) (s3 : Nat) (k3 : Bool) (a4 : Option (Nat × Nat)) (s4 : Nat) (k4 : Bool) : Prop where
  a : Arr H b [.slice a1 s1 u.names.length k1, .slice a2 s2 u.classes.length k2, .slice a3 s3 u.methods.length k3, .slice a4 s4 u.objects.length k4, .int .i64 u.main] fun _ => False
  u : UnE H u [.slice a1 s1 u.names.length k1, .slice a2 s2 u.classes.length k2, .slice a3 s3 u.methods.length k3, .slice a4 s4 u.objects.length k4, .int .i64 u.main]
section
variable {H : AHeap} {u : UUnit} {b : Nat} {a1 : Option (Nat × Nat)} {s1 : Nat} {k1 : Bool} {a2 : Option (Nat × Nat)} {s2 : Nat} {k2 : Bool} {a3 : Option (Nat × Nat)} {s3 : Nat} {k3 : Bool} {a4 : Option (Nat × Nat)} {s4 : Nat} {k4 : Bool}
theorem BoxW.sm {H' : AHeap} (h : BoxW H u b a1 s1 k1 a2 s2 k2 a3 s3 k3 a4 s4 k4) (s : Sm H H') : BoxW H' u b a1 s1 k1 a2 s2 k2 a3 s3 k3 a4 s4 k4 := ⟨h.a.sm s, MonoE.un _ _ _ _ h.u s⟩
theorem BoxW.lds (h : BoxW H u b a1 s1 k1 a2 s2 k2 a3 s3 k3 a4 s4 k4) : loadA H b 0 5 = some [.slice a1 s1 u.names.length k1, .slice a2 s2 u.classes.length k2, .slice a3 s3 u.methods.length k3, .slice a4 s4 u.objects.length k4, .int .i64 u.main] ∧ loadA H b 0 1 = some [.slice a1 s1 u.names.length k1] ∧ loadA H b 1 1 = some [.slice a2 s2 u.classes.length k2] ∧ loadA H b 2 1 = some [.slice a3 s3 u.methods.length k3] ∧ loadA H b 3 1 = some [.slice a4 s4 u.objects.length k4] ∧ loadA H b 4 1 = some [.int .i64 u.main] := by
  have r := h.a.rd
  have r0 := r.one (j := 0) rfl
  have r1 := r.one (j := 1) rfl
  have r2 := r.one (j := 2) rfl
  have r3 := r.one (j := 3) rfl
  have r4 := r.one (j := 4) rfl
  rw [Nat.zero_add] at r0 r1 r2 r3 r4
  exact ⟨r.load rfl, r0, r1, r2, r3, r4⟩
end
/-- Laid into a fresh block. -/
theorem BoxW.of {H : AHeap} {u : UUnit} {cu : List AV} (h : UnE H u cu) : ∃ a1 s1 k1 a2 s2 k2 a3 s3 k3 a4 s4 k4 H', cu = [.slice a1 s1 u.names.length k1, .slice a2 s2 u.classes.length k2, .slice a3 s3 u.methods.length k3, .slice a4 s4 u.objects.length k4, .int .i64 u.main] ∧ storeA (H.newRow [.slice none 1 0 true, .slice none 1 0 true, .slice none 1 0 true, .slice none 1 0 true, .int .i64 0]) H.next 0 [.slice a1 s1 u.names.length k1, .slice a2 s2 u.classes.length k2, .slice a3 s3 u.methods.length k3, .slice a4 s4 u.objects.length k4, .int .i64 u.main] = some H' ∧ Sm H H' ∧ H'.next = H.next + 1 ∧ BoxW H' u H.next a1 s1 k1 a2 s2 k2 a3 s3 k3 a4 s4 k4 := by
  obtain ⟨v1, v2, v3, v4, rfl, h0, q1, q2, q3, q4⟩ := id h
  obtain ⟨a1, s1, k1, rfl, -⟩ := q1.shape
  obtain ⟨a2, s2, k2, rfl, -⟩ := q2.shape
  obtain ⟨a3, s3, k3, rfl, -⟩ := q3.shape
  obtain ⟨a4, s4, k4, rfl, -⟩ := q4.shape
  obtain ⟨H', e, n, s, a⟩ := store_own H [.slice none 1 0 true, .slice none 1 0 true, .slice none 1 0 true, .slice none 1 0 true, .int .i64 0] [.slice a1 s1 u.names.length k1, .slice a2 s2 u.classes.length k2, .slice a3 s3 u.methods.length k3, .slice a4 s4 u.objects.length k4, .int .i64 u.main] rfl
  exact ⟨a1, s1, k1, a2, s2, k2, a3, s3, k3, a4, s4, k4, H', rfl, e, s, n, a, MonoE.un _ _ _ _ h s⟩
set_option maxHeartbeats 4000000
set_option maxHeartbeats 4000000
theorem fit_le (n : Int) : 0 ≤ fitP n ∧ fitP n ≤ 64 := by
  unfold fitP
  repeat' split
  all_goals omega
theorem fit_of {k : Int} (h0 : 0 ≤ k) (h1 : k ≤ 62) : k + 2 ≤ fitP (ofP k) ∧ (fitP (ofP k) ≤ 2 * (k + 2) ∨ fitP (ofP k) ≤ 4) := by
  unfold ofP
  rw [if_neg (by omega)]
  by_cases h2 : k ≤ 2
  · rw [if_pos h2]; show k + 2 ≤ 4 ∧ (4 ≤ 2 * (k + 2) ∨ (4 : Int) ≤ 4); omega
  rw [if_neg h2]
  by_cases h6 : k ≤ 6
  · rw [if_pos h6]; show k + 2 ≤ 8 ∧ (8 ≤ 2 * (k + 2) ∨ (8 : Int) ≤ 4); omega
  rw [if_neg h6]
  by_cases h14 : k ≤ 14
  · rw [if_pos h14]; show k + 2 ≤ 16 ∧ (16 ≤ 2 * (k + 2) ∨ (16 : Int) ≤ 4); omega
  rw [if_neg h14]
  by_cases h30 : k ≤ 30
  · rw [if_pos h30]; show k + 2 ≤ 32 ∧ (32 ≤ 2 * (k + 2) ∨ (32 : Int) ≤ 4); omega
  rw [if_neg h30]; show k + 2 ≤ 64 ∧ (64 ≤ 2 * (k + 2) ∨ (64 : Int) ≤ 4); omega
theorem words_le : ∀ (l : List UObj) (a : Int), 0 ≤ a → a + 64 * (l.length : Int) ≤ 1000000 → 0 ≤ l.foldl (fun a o => IntKind.i64.wrap (a + fitP (ofP o.fields.length))) a ∧ l.foldl (fun a o => IntKind.i64.wrap (a + fitP (ofP o.fields.length))) a ≤ a + 64 * (l.length : Int)
  | [], a, h, _ => by simp; exact h
  | o :: l, a, h, h2 => by
    have hf := fit_le (ofP o.fields.length)
    rw [List.length_cons] at h2
    have hw : IntKind.i64.wrap (a + fitP (ofP o.fields.length)) = a + fitP (ofP o.fields.length) := wrap64 (by omega) (by omega)
    rw [List.foldl_cons, hw, List.length_cons]
    have := words_le l (a + fitP (ofP o.fields.length)) (by omega) (by omega)
    omega
def moreU (u : UUnit) (k : Nat) : UUnit := ⟨u.names, u.classes, u.methods, u.objects ++ [⟨1, List.replicate k (0, 0)⟩], u.main⟩
theorem TQ.words {u : UUnit} (h : TQ u) (k : Nat) : 0 ≤ wordsP u ∧ wordsP u ≤ 1000 ∧ wordsP (moreU u k) = wordsP u + fitP (ofP k) := by
  have h1 := words_le u.objects 0 (by omega) (by have := h.o5; omega)
  have h5 := h.o5
  have hf := fit_le (ofP k)
  have hw : wordsP u = u.objects.foldl (fun a o => IntKind.i64.wrap (a + fitP (ofP o.fields.length))) 0 := rfl
  refine ⟨by rw [hw]; exact h1.1, by rw [hw]; omega, ?_⟩
  show wordsL (u.objects ++ [⟨1, List.replicate k (0, 0)⟩]) = _
  unfold wordsL
  rw [List.foldl_append, hw]
  simp only [List.foldl_cons, List.foldl_nil, List.length_replicate]
  exact wrap64 (by omega) (by omega)
theorem TQ.more {u : UUnit} (h : TQ u) {k : Nat} (hk : k ≤ 62) : unitP (moreU u k) = 0 := by
  obtain ⟨l, S, tc⟩ := h.c
  have n3 := tc.f.n3; have hn := tc.n
  have hl : (moreU u k).objects.length = u.objects.length + 1 := by simp [moreU]
  have e1 : sizesP (moreU u k) = true := decide_eq_true ⟨by show u.names.length ≤ 48; rw [h.n]; decide, by show 1 ≤ u.methods.length; rw [h.m9]; decide, by show u.methods.length ≤ 32; rw [h.m9]; decide, by omega, by have := h.o5; omega⟩
  have e2 : namesP (moreU u k).names = true := by show namesP u.names = true; rw [h.n]; exact names_ok
  have e3 : shapeP (moreU u k).classes (moreU u k).names.length (moreU u k).methods.length = 0 := by show shapeP u.classes u.names.length u.methods.length = 0; rw [h.n, h.m9]; exact tc.shape
  have e5 : methodsP (moreU u k) = 0 := h.meths
  have e6 : mainP (moreU u k) = true := by
    show (decide (0 ≤ u.main ∧ u.main < u.methods.length) && decide ((mAt u u.main.toNat).args = 0)) = true
    rw [h.m, h.m9, show (6 : Int).toNat = 6 from rfl, h.argsQ (by omega)]; rfl
  have e4 : (moreU u k).objects.all (objP (moreU u k)) = true := List.all_eq_true.2 fun o ho => by
    rcases List.mem_append.1 (show o ∈ u.objects ++ [⟨1, List.replicate k (0, 0)⟩] from ho) with ho | ho
    · have hp := h.obj ho
      unfold objP at hp ⊢
      have hp' := Bool.and_eq_true _ _ ▸ hp
      have h1 : decide (1 ≤ o.cls ∧ o.cls < (moreU u k).classes.length ∧ o.fields.length ≤ 62 ∧ (1 < o.cls → (o.fields.length : Int) = (clAt (moreU u k).classes o.cls).fields)) = true := hp'.1
      rw [h1, Bool.true_and]
      refine List.all_eq_true.2 fun v hv => ?_
      have hv' := List.all_eq_true.1 hp'.2 v hv
      unfold valP at hv' ⊢
      by_cases q1 : v.1 = 0 ∨ v.1 = 1 ∨ v.1 = 2
      · rw [if_pos q1] at hv' ⊢; exact hv'
      rw [if_neg q1] at hv' ⊢
      by_cases q2 : v.1 = 3
      · rw [if_pos q2] at hv' ⊢; exact hv'
      rw [if_neg q2] at hv' ⊢
      by_cases q3 : v.1 = 4
      · rw [if_pos q3] at hv' ⊢
        have := of_decide_eq_true hv'
        exact decide_eq_true (by omega)
      rw [if_neg q3] at hv'
      cases hv'
    · obtain rfl : o = ⟨1, List.replicate k (0, 0)⟩ := by simpa using ho
      unfold objP
      rw [decide_eq_true, Bool.true_and]
      · refine List.all_eq_true.2 fun v hv => ?_
        rw [(List.mem_replicate.1 hv).2]; rfl
      · refine ⟨by dsimp only; omega, ?_, by rw [List.length_replicate]; exact hk, fun h => absurd h (by dsimp only; omega)⟩
        show (1 : Int) < (u.classes.length : Int)
        omega
  unfold unitP
  rw [e1, e2, e3, e4, e5, e6]
  rfl
theorem zeros_at {k j : Nat} (hj : j < k) : (((List.replicate k [AV.int .i64 0, .int .i64 0]).flatten).drop (j * 2)).take 2 = prC (0, 0) := by
  have e : (List.replicate k [AV.int .i64 0, .int .i64 0]).flatten = (List.replicate k ((0 : Int), (0 : Int))).flatMap prC := by
    rw [List.flatMap_def, List.map_replicate]; rfl
  rw [e, flat_at (enc := prC) (s := 2) (fun _ => rfl) _ j (by simpa using hj), List.getElem_replicate]
/-- A row laid behind nothing, of things that lay in H0. -/
theorem app_row {α : Type} {E : Rep α} (hE : MonoE E) {H0 K1 : AHeap} {y s bytes : Nat} {xs : List α} {v : AV} (hv : SlE E s H0 xs [v]) (sK : Sm H0 K1) (a0 : Arr K1 y [] fun _ => False) (hbt : xs.length * bytes ≤ 140737488355328) (hm : xs.length ≤ 140737488355328) :
    ∃ x cl cs K2, appendF K1 s bytes false (.slice (some (y, 0)) s 0 true) v = some (.slice (some (x, 0)) s xs.length cl, K2) ∧ Sm K1 K2 ∧ (x = y ∨ x = K1.next) ∧ RowB H0 E s K2 xs x cs := by
  obtain ⟨a, s0, cl0, rfl, -⟩ := hv.shape
  obtain ⟨cs, q1, q2, q3⟩ := SlE.row hE (hE.sl _ _ _ _ hv sK)
  obtain ⟨cs0, p1, p2, p3⟩ := SlE.row hE hv
  have hcs : cs = cs0 := by
    obtain ⟨a', s0', cl', e, k0, k1, k⟩ := hv
    cases e
    by_cases h0 : xs.length = 0
    · rw [List.eq_nil_of_length_eq_zero (by rw [q2, h0]; simp : cs.length = 0), List.eq_nil_of_length_eq_zero (by rw [p2, h0]; simp : cs0.length = 0)]
    · obtain ⟨x, o, cs', rfl, hr, hl, hj⟩ := k h0
      have r1 : srcA K1 s false (.slice (some (x, o)) s0 xs.length cl0) = some (cs', xs.length) := srcA_slice (hr.keep sK.1 (sK.gt hr.1)) hl
      have r2 : srcA H0 s false (.slice (some (x, o)) s0 xs.length cl0) = some (cs', xs.length) := srcA_slice hr hl
      rw [q1] at r1
      rw [p1] at r2
      injection r1 with r1; injection r1 with r1 _
      injection r2 with r2; injection r2 with r2 _
      rw [r1, r2]
  subst hcs
  obtain ⟨x, cl, K2, e1, s2, hx, a2⟩ := append_own (bytes := bytes) a0 q1 q2 hbt hm
  exact ⟨x, cl, cs, K2, e1, s2, hx, a2, q2, hv.max, p3⟩
/-- One row behind another one of one's own. -/
theorem app_src {K : AHeap} {x s n m bytes : Nat} {cl : Bool} {cs ys : List AV} {src : AV} (ha : Arr K x cs fun _ => False) (hl : cs.length = n * s) (hs : srcA K s false src = some (ys, m)) (hm : m ≠ 0) (hy : ys.length = m * s) (hb : (n + m) * bytes ≤ 140737488355328) (hm2 : n + m ≤ 140737488355328) :
    ∃ K2, appendF K s bytes false (.slice (some (x, 0)) s n cl) src = some (.slice (some (K.next, 0)) s (n + m) false, K2) ∧ K2.next = K.next + 1 ∧ (∀ z, z < K.next → z ≠ x → K2.get z = K.get z) ∧ Rd K2 K.next 0 (cs ++ ys) := by
  have e2 : m.beq 0 = false := nbf hm
  cases cl with
  | true =>
    have hld : loadA K x 0 (n * s) = some cs := ha.rd.load hl
    refine ⟨K.newRow (cs ++ ys), ?_, rfl, fun z hz _ => (Chg.newRow K _).gt hz, Rd.newRow K _⟩
    unfold appendF appendA
    simp only [hs, e2, cond_false, Nat.ble_eq_true_of_le hb, Nat.ble_eq_true_of_le hm2, Bool.and_self, cond_true, Nat.beq_refl, hld]
  | false =>
    obtain ⟨hx, c, par, hc, hf, hp⟩ := ha
    have hpar : par = [] := by
      cases par with
      | nil => rfl
      | cons z l => exact (hp z (by simp)).elim
    subst hpar
    have hbl : (n * s).beq cs.length = true := nbt' hl.symm
    refine ⟨(K.put x (.cells c cs.length false [])).new (.cells (ofL ys cs.length c) (cs.length + ys.length) true [x]), ?_, rfl, fun z hz hzx => ?_, ?_⟩
    · unfold appendF
      simp only [hc, hbl, Nat.beq_refl, Bool.and_self, cond_true, hs, e2, cond_false, Nat.ble_eq_true_of_le hb, Nat.ble_eq_true_of_le hm2]
    · rw [get_new, if_neg (by show ¬ K.next = z; omega), get_put, if_neg (Ne.symm hzx)]
    · refine ⟨by show K.next < K.next + 1; omega, ofL ys cs.length c, cs.length + ys.length, true, [x], by rw [get_new, if_pos (by rfl)], by rw [List.length_append]; omega, fun j v hj => ?_⟩
      have hjl := (List.getElem?_eq_some_iff.1 hj).1
      rw [List.length_append] at hjl
      rw [Nat.zero_add, get_ofL]
      by_cases h1 : j < cs.length
      · rw [if_neg (by omega)]
        rw [List.getElem?_append_left h1] at hj
        exact hf j v hj
      · rw [if_pos (by omega)]
        rwa [List.getElem?_append_right (by omega)] at hj
theorem c_UnitWords {H : AHeap} {l : List Int} {v : AV} (h : SlE InE 1 H l [v]) (n : Int) : CW MN 8 [v, .int .i64 n] H fun w H' => w = .bool true ∧ Sm H H' := by
  refine CW_of (fn := af8) rfl ?_
  unfold af8
  obtain ⟨la, ls, lk, rfl, -⟩ := h.shape
  simp -implicitDefEqProofs only [go_sem]
  refine CW.mono (c_unitOf h) ?_
  rintro _ K0 ⟨u, cu, rfl, hu, tq, sK⟩
  obtain ⟨a1, s1, k1, a2, s2, k2, a3, s3, k3, a4, s4, k4, K1, rfl, e1, sm1, n1, bw⟩ := BoxW.of hu
  obtain ⟨d5, d0, d1, d2, d3, d4⟩ := bw.lds
  simp -implicitDefEqProofs only [e1, d5, go_sem]
  refine CW.mono (c_Words bw.u) ?_
  rintro _ K2 ⟨rfl, t2⟩
  simp -implicitDefEqProofs only [go_sem]
  refine CW.mono (c_withinN n 0 62 K2 (by omega) (by omega) (by omega)) ?_
  rintro _ K ⟨⟨k, rfl, hk0, hk1⟩, rfl⟩
  obtain ⟨k, rfl⟩ : ∃ j : Nat, k = (j : Int) := ⟨k.toNat, by omega⟩
  have bw := bw.sm t2
  obtain ⟨d5, d0, d1, d2, d3, d4⟩ := bw.lds
  obtain ⟨hw0, hw1, hw2⟩ := tq.words k
  have hr := tq.more (k := k) (by omega)
  have ho5 := tq.o5
  have hKn := bw.a.1
  obtain ⟨_, _, _, _, he, hmn, q1, q2, q3, q4⟩ := bw.u
  cases he
  -- the objects copied
  have S1 := Chg.newRow K []
  have A1 := Arr.newRow K [] fun _ => False
  have N1 : (K.newRow []).next = K.next + 1 := rfl
  generalize eK1 : K.newRow [] = L1 at S1 A1 N1
  have S2 := Chg.newRow L1 ((List.replicate k [AV.int .i64 0, .int .i64 0]).flatten)
  have R2 := Rd.newRow L1 ((List.replicate k [AV.int .i64 0, .int .i64 0]).flatten)
  have N2 : (L1.newRow ((List.replicate k [AV.int .i64 0, .int .i64 0]).flatten)).next = L1.next + 1 := rfl
  generalize eK2 : L1.newRow ((List.replicate k [AV.int .i64 0, .int .i64 0]).flatten) = L2 at S2 R2 N2
  have S3 := Chg.newRow L2 [.int .i64 1, .slice (some (L1.next, 0)) 2 k true]
  have R3 := Rd.newRow L2 [.int .i64 1, .slice (some (L1.next, 0)) 2 k true]
  have N3 : (L2.newRow [.int .i64 1, .slice (some (L1.next, 0)) 2 k true]).next = L2.next + 1 := rfl
  generalize eK3 : L2.newRow [.int .i64 1, .slice (some (L1.next, 0)) 2 k true] = L3 at S3 R3 N3
  have S13 := (S1.trans S2).trans S3
  have q40 : SlE ObE 2 K0 u.objects [.slice a4 s4 u.objects.length k4] := by
    obtain ⟨_, _, _, _, he, -, -, -, -, q⟩ := hu
    cases he
    exact q
  have sK2 : Sm K0 K := sm1.trans t2
  obtain ⟨x, cl, cs, L4, e4, S4, hx, RB⟩ := app_row (bytes := 32) MonoE.ob q40 (sK2.trans S13) ((A1.sm S2).sm S3) (by omega) (by omega)
  have p2 := RB.l
  have N4 := S4.1
  have hsr : srcA L4 2 false (.slice (some (L2.next, 0)) 2 1 true) = some ([.int .i64 1, .slice (some (L1.next, 0)) 2 k true], 1) := srcA_slice (R3.keep S4.1 (S4.gt R3.1)) rfl
  obtain ⟨L5, e5, n5, kp5, R5⟩ := app_src (cl := cl) (bytes := 32) (m := 1) RB.a p2 hsr (by omega) rfl (by omega) (by omega)
  have hxK : K.next ≤ x := by omega
  have s04 : Sm K L4 := S13.trans S4
  have s05 : Sm K L5 := Sm.of (by have := s04.1; omega) fun z hz => by rw [kp5 z (by have := s04.1; omega) (by omega), s04.gt hz]
  obtain ⟨L6, e6, n6, A6, g6⟩ := (bw.a.sm s05).store (o := 3) (vs := [.slice (some (L4.next, 0)) 2 (u.objects.length + 1) false]) (cs' := [.slice a1 s1 u.names.length k1, .slice a2 s2 u.classes.length k2, .slice a3 s3 u.methods.length k3, .slice (some (L4.next, 0)) 2 (u.objects.length + 1) false, .int .i64 u.main]) (by simp) rfl
  have g6' : ∀ z, z ≠ K0.next → L6.get z = L5.get z := fun z hz => g6 z hz (fun h => h)
  have n0K := sK2.1
  have s06 : Sm K0 L6 := Sm.of (by have := s05.1; omega) fun z hz => by rw [g6' z (by omega), s05.gt (by omega), sK2.gt hz]
  have r6 : Rd L6 L4.next 0 (cs ++ [.int .i64 1, .slice (some (L1.next, 0)) 2 k true]) := R5.keep (by omega) (g6' _ (by omega))
  have rz : Rd L6 L1.next 0 ((List.replicate k [AV.int .i64 0, .int .i64 0]).flatten) := R2.keep (by omega) (by rw [g6' _ (by omega), kp5 _ (by omega) (by omega), S4.gt (by omega), S3.gt (by omega)])
  have hl2 : (u.objects ++ [(⟨1, List.replicate k (0, 0)⟩ : UObj)]).length = u.objects.length + 1 := by simp
  have uM : UnE L6 (moreU u k) [.slice a1 s1 u.names.length k1, .slice a2 s2 u.classes.length k2, .slice a3 s3 u.methods.length k3, .slice (some (L4.next, 0)) 2 (u.objects.length + 1) false, .int .i64 u.main] := by
    obtain ⟨_, _, _, _, he, hmn', q1', q2', q3', q4'⟩ := MonoE.un _ _ _ _ hu s06
    cases he
    have q4n : SlE ObE 2 L6 (u.objects ++ [(⟨1, List.replicate k (0, 0)⟩ : UObj)]) [.slice (some (L4.next, 0)) 2 (u.objects.length + 1) false] := by
      refine SlE.new MonoE.ob r6 hl2.symm (by rw [List.length_append, p2, hl2]; simp; omega) (by rw [hl2]; unfold maxLen; omega) fun j hj => ?_
      by_cases hlt : j < u.objects.length
      · have hle : (j + 1) * 2 ≤ u.objects.length * 2 := Nat.mul_le_mul_right _ (by omega)
        rw [List.drop_append_of_le_length (by omega), List.take_append_of_le_length (by simp; omega), List.getElem_append_left hlt]
        exact MonoE.ob _ _ _ _ (RB.e j hlt) s06
      · obtain rfl : j = u.objects.length := by omega
        rw [← p2, List.drop_left, List.getElem_append_right (Nat.le_refl _)]
        simp only [Nat.sub_self, List.getElem_cons_zero]
        refine ⟨_, rfl, by simp [I64], ?_⟩
        refine SlE.new MonoE.enc rz (by simp) (by simp) (by simp; unfold maxLen; omega) fun j hj => ?_
        rw [List.length_replicate] at hj
        rw [List.getElem_replicate]
        exact ⟨zeros_at hj, by simp [prOk, I64]⟩
    exact ⟨_, _, _, _, rfl, hmn, q1', q2', q3', q4n⟩
  have f0 := d3
  have f1 : loadA L1 K0.next 3 1 = some [.slice a4 s4 u.objects.length k4] := by rw [S1.ld hKn, d3]
  have f2 : loadA L2 K0.next 3 1 = some [.slice a4 s4 u.objects.length k4] := by rw [(S1.trans S2).ld hKn, d3]
  have f4 : loadA L4 K0.next 3 1 = some [.slice a4 s4 u.objects.length k4] := by rw [s04.ld hKn, d3]
  have f3 : loadA L3 K0.next 3 1 = some [.slice a4 s4 u.objects.length k4] := by rw [S13.ld hKn, d3]
  have k16 : (k : Int) * 16 ≤ 140737488355328 := by omega
  have kM : (k : Int) ≤ 9223372036854775807 := by omega
  have f6 : loadA L6 K0.next 0 5 = some [.slice a1 s1 u.names.length k1, .slice a2 s2 u.classes.length k2, .slice a3 s3 u.methods.length k3, .slice (some (L4.next, 0)) 2 (u.objects.length + 1) false, .int .i64 u.main] := A6.rd.load rfl
  simp -implicitDefEqProofs only [eK1, eK2, eK3, f0, f1, f2, f3, f4, e4, k16, kM, hk0, e5, e6, f6, go_sem]
  refine CW.mono (c_Words uM) ?_
  rintro _ G ⟨rfl, t3⟩
  have A7 := A6.sm t3
  have f7 : loadA G K0.next 0 5 = some [.slice a1 s1 u.names.length k1, .slice a2 s2 u.classes.length k2, .slice a3 s3 u.methods.length k3, .slice (some (L4.next, 0)) 2 (u.objects.length + 1) false, .int .i64 u.main] := A7.rd.load rfl
  simp -implicitDefEqProofs only [f7, go_sem]
  refine CW.mono (c_unitRight (MonoE.un _ _ _ _ uM t3)) ?_
  rintro _ G2 ⟨rfl, t4⟩
  have hf := fit_of (k := (k : Int)) hk0 hk1
  have hf2 := fit_le (ofP (k : Int))
  rw [hr, hw2]
  generalize wordsP u = W at *
  generalize fitP (ofP (k : Int)) = F at *
  have w1 : IntKind.i64.wrap (W + F - W) = F := by rw [wrap64 (by omega) (by omega)]; omega
  have w2 : IntKind.i64.wrap ((k : Int) + 2) = (k : Int) + 2 := wrap64 (by omega) (by omega)
  have w3 : IntKind.i64.wrap (2 * ((k : Int) + 2)) = 2 * ((k : Int) + 2) := wrap64 (by omega) (by omega)
  obtain ⟨M, hM, hM2⟩ : ∃ M : Int, mnL true (.int .i64 (2 * ((k : Int) + 2))) [.int .i64 4] = some (.int .i64 M) ∧ F ≤ M := by
    simp only [mnL, mnA, cond_true]
    by_cases h4 : (4 : Int) > 2 * ((k : Int) + 2)
    · rw [if_pos h4]; exact ⟨4, rfl, by omega⟩
    · rw [if_neg h4]; exact ⟨_, rfl, by omega⟩
  simp -implicitDefEqProofs only [Int.reduceBEq, w1, w2, w3, hM, hM2, hf.1, go_sem]
  refine CW.mono (c_known15 G2) ?_
  rintro _ G3 ⟨rfl, t5⟩
  simp -implicitDefEqProofs only [f7, go_sem]
  exact (((sK.trans s06).trans t3).trans t4).trans t5
set_option maxHeartbeats 4000000
theorem TQ.sm {u : UUnit} (h : TQ u) : SmU 64 u ∧ GeU u := by
  obtain ⟨l, S, tc⟩ := h.c
  have n3 := tc.f.n3; have n5 := tc.f.n5; have hn := tc.n
  have hm : ∀ m, m ∈ u.methods → ∃ a, methOk u.classes.length a m := fun m hm => by
    obtain ⟨j, hj, rfl⟩ := List.mem_iff_getElem.1 hm
    have := h.ma j (by have := h.m9; omega)
    rw [mAt_nat hj] at this
    exact ⟨_, this⟩
  refine ⟨⟨by rw [h.n]; decide, by omega, by rw [h.m9]; decide, by have := h.o5; omega, fun c hc => ?_, fun m hx => ?_, fun m hx => ?_, fun o ho => ?_⟩, ⟨by omega, by rw [h.m9]; decide, h.o1⟩⟩
  · rcases tc.bind hc with e | ⟨S, e⟩
    · rw [e]; decide
    · rw [e]; have := selS_len S 6; omega
  · obtain ⟨a, h1⟩ := hm m hx
    rw [h1.2.2.1.len]; decide
  · obtain ⟨a, -, -, -, l, e, h4, -, -, h7⟩ := hm m hx
    rw [h4, flatI_len, List.length_append, List.length_singleton]; omega
  · have hp := h.obj ho
    unfold objP at hp
    have hs2 := of_decide_eq_true (Bool.and_eq_true _ _ ▸ hp).1
    omega
set_option maxHeartbeats 4000000
set_option maxHeartbeats 4000000
theorem CpR.unK {H0 H' G : AHeap} {u : UUnit} {cu : List AV} (h : CpR H0 H' u cu) (k : KpM H0.next H' G) : UnE G u cu := by
  obtain ⟨lo, H1, H2, H3, v1, v2, v3, v4, rfl, hm, l0, l1, s, o1, k1, g2, l2, k23, g3, k3, g4, m2, m3, m4⟩ := h
  have q1 := k1.1; have q2 := k23.1; have q3 := k3.1
  exact ⟨v1, v2, v3, v4, rfl, hm, (o1.kp (Nat.le_refl _) (k1.trans (k.up (by omega)))).slE, (g2.kp ClO.mono (Nat.le_refl _) ((k23.trans k3).trans (k.up (by omega)))).slE ClO.cl m2, (g3.kp MeO.mono (m := H1.next) (by omega) (k3.trans (k.up (by omega)))).slE MeO.me m3, (g4.kp ObO.mono (m := H0.next) (by omega) k).slE ObO.ob m4⟩
theorem Arr.eq {H : AHeap} {x : Nat} {cs cs' : List AV} {P P' : Nat → Prop} (h : Arr H x cs P) (h' : Arr H x cs' P') : cs = cs' := by
  obtain ⟨-, c, par, hc, hf, -⟩ := h
  obtain ⟨-, c', par', hc', hf', -⟩ := h'
  rw [hc] at hc'
  injection hc' with e1 e2 e3 e4
  subst e1
  refine List.ext_getElem e2 fun j h1 h2 => ?_
  have a1 := hf j cs[j] (List.getElem?_eq_getElem h1)
  have a2 := hf' j cs'[j] (List.getElem?_eq_getElem h2)
  rw [a1] at a2
  exact Option.some.inj a2
end Go.Proofs.YtbbjlbdmjikhbaaGreatDoor.AA
