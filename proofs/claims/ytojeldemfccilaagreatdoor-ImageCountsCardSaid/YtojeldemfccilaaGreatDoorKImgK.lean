/- The five laws. -/
import Derived.Test.YtojeldemfccilaaGreatDoorKImgJ
set_option linter.unusedSimpArgs false
set_option linter.unusedVariables false
namespace Go.Proofs.YtojeldemfccilaaGreatDoor.AA
open Go Go.RowKit
set_option maxRecDepth 100000
set_option maxHeartbeats 8000000
attribute [local irreducible] Tr.set
theorem tape_row {H : AHeap} {l : List Int} {v : AV} (h : SlE InE 1 H l [v]) : TapeR (H.newRow [v, .int .i64 0]) H.next := by
  obtain ⟨a, s0, cl, rfl, -⟩ := h.shape
  exact ⟨H, l, a, s0, cl, 0, Nat.le_refl _, Chg.newRow H _, h, Nat.zero_le _, Arr.newRow H _ _⟩
theorem c_unitOf {H : AHeap} {l : List Int} {v : AV} (h : SlE InE 1 H l [v]) : CW MN 9 [.ptr (some (H.next, 0))] (H.newRow [v, .int .i64 0]) fun w H' => ∃ u cu, w = .agg cu ∧ UnE H' u cu ∧ TQ u ∧ Sm H H' :=
  (c_Unit (tape_row h)).mono fun w H' ⟨u, cu, h1, h2, h3, h4, h5⟩ => ⟨u, cu, h1, h2, h3.tq, Sm.of (by rw [show (H.newRow [v, .int .i64 0]).next = H.next + 1 from rfl] at h4; omega) fun z hz => by
    rw [h5 z (by rw [show (H.newRow [v, .int .i64 0]).next = H.next + 1 from rfl]; omega) (by omega), (Chg.newRow H _).gt hz]⟩
theorem ByE.src {H : AHeap} {d : List Nat} {v : AV} (h : SlE ByE 1 H d [v]) : srcA H 1 false v = some (d.flatMap byC, d.length) := by
  obtain ⟨a, s0, cl, rfl, -⟩ := h.shape
  obtain ⟨cs, q1, q2, q3⟩ := SlE.row MonoE.enc h
  have hcs : cs = d.flatMap byC := by
    rw [bytes_map]
    refine List.ext_getElem (by rw [q2, List.length_map, Nat.mul_one]) fun j h1 h2 => ?_
    have hj : j < d.length := by rw [List.length_map] at h2; exact h2
    have e := (q3 j hj).1
    rw [Nat.mul_one] at e
    have e2 : ((cs.drop j).take 1)[0]? = some cs[j] := by
      rw [List.getElem?_take, if_pos (by omega), List.getElem?_drop, Nat.add_zero, List.getElem?_eq_getElem h1]
    rw [e] at e2
    rw [List.getElem_map]
    exact (Option.some.inj e2).symm
  rw [q1, hcs]
theorem bg_pre {H : AHeap} {d : List Nat} {x o n : Nat} {cl : Bool} (h : SlE ByE 1 H d [.slice (some (x, o)) 1 n cl]) (h0 : d.length ≠ 0) {k : Nat} (hk : k ≤ d.length) : BG 0 H (d.take k) (.slice (some (x, o)) 1 k true) := by
  have hl := ByE.lt h
  obtain ⟨cs, q1, q2, q3⟩ := SlE.row MonoE.enc h
  obtain ⟨a, s0, cl', e, k0, k1, kk⟩ := id h
  cases e
  obtain ⟨x', o', cs', e, hr, hlen, hj⟩ := kk h0
  cases e
  have hcs : cs' = d.flatMap byC := by
    have e := ByE.src h
    rw [srcA_slice hr hlen] at e
    injection e with e
    injection e
  subst hcs
  have hkl : (d.take k).length = k := by rw [List.length_take]; omega
  refine ⟨.inr ⟨x, o, true, by rw [hkl], Nat.zero_le _, by rw [byC_len, Nat.mul_one], ?_, fun h => by cases h⟩, fun x hx => hl x (List.mem_of_mem_take hx)⟩
  have := hr.pre k
  rw [bytes_map, ← List.map_take, ← bytes_map] at this
  exact this
theorem ByE.pt {H : AHeap} {d : List Nat} {v : AV} (h : SlE ByE 1 H d [v]) (h0 : d.length ≠ 0) : ∃ x o cl, v = .slice (some (x, o)) 1 d.length cl := by
  obtain ⟨a, s0, cl, e, k0, k1, k⟩ := h
  cases e
  obtain ⟨x, o, cs, rfl, hr, hl, hj⟩ := k h0
  rcases k0 with e | rfl
  · cases e
  · exact ⟨x, o, cl, rfl⟩
theorem ByE.bg {H : AHeap} {d : List Nat} {v : AV} (h : SlE ByE 1 H d [v]) (hu : ub v = none) (h0 : d.length ≠ 0) : BG 0 H d v := by
  obtain ⟨x, o, cl, rfl⟩ := ByE.pt h h0
  cases cl with
  | false => cases hu
  | true =>
    have := bg_pre h h0 (Nat.le_refl _)
    rwa [List.take_length] at this
theorem BS.all {v w : AV} {H H' : AHeap} (b : BS v w H H') (hu : ub v = none) : Sm H H' := Sm.of b.n fun x hx => b.k x hx (by rw [hu]; simp)
theorem bytesP_min (u : UUnit) : 24 ≤ (bytesP u).length := by
  simp only [bytesP, unB, rowB, List.length_append, b4_len]
  have h3 : markB.length = 4 := rfl
  omega
attribute [local go_sem ↓] exA_lookup stepA_lookup exA_mapUpd WP_seq WP_skip WP_region WP_dregion WP_cond WP_block WP_exit WP_ret OW_nil OW_cons DW_nil DW_cons XW_call reduceIte OW_guard DW_guard
attribute [local go_sem] LkA_some EvA_some updM_some at0 at1 XW exA KO_eq OptK_some EvK_some GW2_true GW2_false KS_normal KS_ret KS_exit KB_normal KB_ret KB_exit CP2_bool RP_ret putA_some putA_none ev_t ev_c evs evo wantA initA resA Tr.get_set vl chkOk cond_true cond_false Nat.add_zero Nat.mul_one Nat.one_mul Nat.zero_add Nat.zero_mul aggOf pInt binA unA intA beq_true beq_false Bool.not_true Bool.not_false Bool.not_eq_true and_self and_true true_and reduceIte Nat.reduceEqDiff Nat.succ_ne_self Nat.reduceAdd Nat.reduceMul Nat.reduceSub Nat.reduceBEq Nat.reduceLT Nat.reduceLeDiff Int.cast_ofNat_Int Int.reduceToNat Int.reduceLT Int.reduceLE Int.reduceGE Int.reduceGT Int.reduceEq Int.reduceNe Int.reduceAdd Int.reduceSub Int.reduceNeg decide_true decide_false Int.toNat_natCast reduceCtorEq List.nil_append List.cons_append AV.boxy AV.cells List.length_cons List.length_nil Nat.beq_refl AOp.cl KDW_0 KDW_1 KDW_2 OWskip_eq DWskip_eq fillA setAt DChk DAt stepA ble_dec beq_dec Bool.and_self Bool.and_true Bool.true_and Bool.and_false Bool.false_and List.take_succ_cons List.take_zero List.drop_succ_cons List.drop_zero List.take_nil List.drop_nil List.append_nil eqAV eqAVL BEq.rfl sameS Option.map Option.isNone wrap64 gt_iff_lt ge_iff_le Int.lt_irrefl Int.le_refl
set_option maxHeartbeats 8000000
set_option maxHeartbeats 8000000
set_option maxHeartbeats 8000000
def moreU (u : UUnit) (k : Nat) : UUnit := ⟨u.names, u.classes, u.methods, u.objects ++ [⟨1, List.replicate k (0, 0)⟩], u.main⟩
theorem TQ.more {u : UUnit} (h : TQ u) {k : Nat} (hk : k ≤ 62) : unitP (moreU u k) = 0 := by
  obtain ⟨l, S, tc⟩ := h.c
  have n3 := tc.f.n3; have hn := tc.n
  have hl : (moreU u k).objects.length = u.objects.length + 1 := by simp [moreU]
  have e1 : sizesP (moreU u k) = true := decide_eq_true ⟨by show u.names.length ≤ 48; rw [h.n]; decide, by show 1 ≤ u.methods.length; rw [h.m9]; decide, by show u.methods.length ≤ 32; rw [h.m9]; decide, by omega, by have := h.o5; omega⟩
  have e2 : namesP (moreU u k).names = true := by show namesP u.names = true; rw [h.n]; exact names_ok
  have e3 : shapeP (moreU u k).classes (moreU u k).names.length (moreU u k).methods.length = 0 := by show shapeP u.classes u.names.length u.methods.length = 0; rw [h.n, h.m9]; exact tc.shape
  have e5 : methodsP (moreU u k) = 0 := h.meths
  have e6 : mainP (moreU u k) = true := by
    show (decide (0 ≤ u.main ∧ u.main < u.methods.length) && decide ((mAt u u.main.toNat).args = 0)) = true
    rw [h.m, h.m9, show (6 : Int).toNat = 6 from rfl, h.argsQ (by omega)]; rfl
  have e4 : (moreU u k).objects.all (objP (moreU u k)) = true := List.all_eq_true.2 fun o ho => by
    rcases List.mem_append.1 (show o ∈ u.objects ++ [⟨1, List.replicate k (0, 0)⟩] from ho) with ho | ho
    · have hp := h.obj ho
      unfold objP at hp ⊢
      have hp' := Bool.and_eq_true _ _ ▸ hp
      have h1 : decide (1 ≤ o.cls ∧ o.cls < (moreU u k).classes.length ∧ o.fields.length ≤ 62 ∧ (1 < o.cls → (o.fields.length : Int) = (clAt (moreU u k).classes o.cls).fields)) = true := hp'.1
      rw [h1, Bool.true_and]
      refine List.all_eq_true.2 fun v hv => ?_
      have hv' := List.all_eq_true.1 hp'.2 v hv
      unfold valP at hv' ⊢
      by_cases q1 : v.1 = 0 ∨ v.1 = 1 ∨ v.1 = 2
      · rw [if_pos q1] at hv' ⊢; exact hv'
      rw [if_neg q1] at hv' ⊢
      by_cases q2 : v.1 = 3
      · rw [if_pos q2] at hv' ⊢; exact hv'
      rw [if_neg q2] at hv' ⊢
      by_cases q3 : v.1 = 4
      · rw [if_pos q3] at hv' ⊢
        have := of_decide_eq_true hv'
        exact decide_eq_true (by omega)
      rw [if_neg q3] at hv'
      cases hv'
    · obtain rfl : o = ⟨1, List.replicate k (0, 0)⟩ := by simpa using ho
      unfold objP
      rw [decide_eq_true, Bool.true_and]
      · refine List.all_eq_true.2 fun v hv => ?_
        rw [(List.mem_replicate.1 hv).2]; rfl
      · refine ⟨by dsimp only; omega, ?_, by rw [List.length_replicate]; exact hk, fun h => absurd h (by dsimp only; omega)⟩
        show (1 : Int) < (u.classes.length : Int)
        omega
  unfold unitP
  rw [e1, e2, e3, e4, e5, e6]
  rfl
theorem zeros_at {k j : Nat} (hj : j < k) : (((List.replicate k [AV.int .i64 0, .int .i64 0]).flatten).drop (j * 2)).take 2 = prC (0, 0) := by
  have e : (List.replicate k [AV.int .i64 0, .int .i64 0]).flatten = (List.replicate k ((0 : Int), (0 : Int))).flatMap prC := by
    rw [List.flatMap_def, List.map_replicate]; rfl
  rw [e, flat_at (enc := prC) (s := 2) (fun _ => rfl) _ j (by simpa using hj), List.getElem_replicate]
theorem app_row {α : Type} {E : Rep α} (hE : MonoE E) {H0 K1 : AHeap} {y s bytes : Nat} {xs : List α} {v : AV} (hv : SlE E s H0 xs [v]) (sK : Sm H0 K1) (a0 : Arr K1 y [] fun _ => False) (hbt : xs.length * bytes ≤ 140737488355328) (hm : xs.length ≤ 140737488355328) :
    ∃ x cl cs K2, appendF K1 s bytes false (.slice (some (y, 0)) s 0 true) v = some (.slice (some (x, 0)) s xs.length cl, K2) ∧ Sm K1 K2 ∧ (x = y ∨ x = K1.next) ∧ RowB H0 E s K2 xs x cs := by
  obtain ⟨a, s0, cl0, rfl, -⟩ := hv.shape
  obtain ⟨cs, q1, q2, q3⟩ := SlE.row hE (hE.sl _ _ _ _ hv sK)
  obtain ⟨cs0, p1, p2, p3⟩ := SlE.row hE hv
  have hcs : cs = cs0 := by
    obtain ⟨a', s0', cl', e, k0, k1, k⟩ := hv
    cases e
    by_cases h0 : xs.length = 0
    · rw [List.eq_nil_of_length_eq_zero (by rw [q2, h0]; simp : cs.length = 0), List.eq_nil_of_length_eq_zero (by rw [p2, h0]; simp : cs0.length = 0)]
    · obtain ⟨x, o, cs', rfl, hr, hl, hj⟩ := k h0
      have r1 : srcA K1 s false (.slice (some (x, o)) s0 xs.length cl0) = some (cs', xs.length) := srcA_slice (hr.keep sK.1 (sK.gt hr.1)) hl
      have r2 : srcA H0 s false (.slice (some (x, o)) s0 xs.length cl0) = some (cs', xs.length) := srcA_slice hr hl
      rw [q1] at r1
      rw [p1] at r2
      injection r1 with r1; injection r1 with r1 _
      injection r2 with r2; injection r2 with r2 _
      rw [r1, r2]
  subst hcs
  obtain ⟨x, cl, K2, e1, s2, hx, a2⟩ := append_own (bytes := bytes) a0 q1 q2 hbt hm
  exact ⟨x, cl, cs, K2, e1, s2, hx, a2, q2, hv.max, p3⟩
theorem app_src {K : AHeap} {x s n m bytes : Nat} {cl : Bool} {cs ys : List AV} {src : AV} (ha : Arr K x cs fun _ => False) (hl : cs.length = n * s) (hs : srcA K s false src = some (ys, m)) (hm : m ≠ 0) (hy : ys.length = m * s) (hb : (n + m) * bytes ≤ 140737488355328) (hm2 : n + m ≤ 140737488355328) :
    ∃ K2, appendF K s bytes false (.slice (some (x, 0)) s n cl) src = some (.slice (some (K.next, 0)) s (n + m) false, K2) ∧ K2.next = K.next + 1 ∧ (∀ z, z < K.next → z ≠ x → K2.get z = K.get z) ∧ Rd K2 K.next 0 (cs ++ ys) := by
  have e2 : m.beq 0 = false := nbf hm
  cases cl with
  | true =>
    have hld : loadA K x 0 (n * s) = some cs := ha.rd.load hl
    refine ⟨K.newRow (cs ++ ys), ?_, rfl, fun z hz _ => (Chg.newRow K _).gt hz, Rd.newRow K _⟩
    unfold appendF appendA
    simp only [hs, e2, cond_false, Nat.ble_eq_true_of_le hb, Nat.ble_eq_true_of_le hm2, Bool.and_self, cond_true, Nat.beq_refl, hld]
  | false =>
    obtain ⟨hx, c, par, hc, hf, hp⟩ := ha
    have hpar : par = [] := by
      cases par with
      | nil => rfl
      | cons z l => exact (hp z (by simp)).elim
    subst hpar
    have hbl : (n * s).beq cs.length = true := nbt' hl.symm
    refine ⟨(K.put x (.cells c cs.length false [])).new (.cells (ofL ys cs.length c) (cs.length + ys.length) true [x]), ?_, rfl, fun z hz hzx => ?_, ?_⟩
    · unfold appendF
      simp only [hc, hbl, Nat.beq_refl, Bool.and_self, cond_true, hs, e2, cond_false, Nat.ble_eq_true_of_le hb, Nat.ble_eq_true_of_le hm2]
    · rw [get_new, if_neg (by show ¬ K.next = z; omega), get_put, if_neg (Ne.symm hzx)]
    · refine ⟨by show K.next < K.next + 1; omega, ofL ys cs.length c, cs.length + ys.length, true, [x], by rw [get_new, if_pos (by rfl)], by rw [List.length_append]; omega, fun j v hj => ?_⟩
      have hjl := (List.getElem?_eq_some_iff.1 hj).1
      rw [List.length_append] at hjl
      rw [Nat.zero_add, get_ofL]
      by_cases h1 : j < cs.length
      · rw [if_neg (by omega)]
        rw [List.getElem?_append_left h1] at hj
        exact hf j v hj
      · rw [if_pos (by omega)]
        rwa [List.getElem?_append_right (by omega)] at hj
def anoS : List Nat := [97, 110, 111, 116, 104, 101, 114]
def nameU (u : UUnit) : UUnit := ⟨u.names ++ [anoS], u.classes, u.methods, u.objects, u.main⟩
theorem nms_ok2 : namesP (nmsU ++ [anoS]) = true := by decide +kernel
theorem nms_args2 : ∀ j, j < 6 → argsP ((nmsU ++ [anoS]).getD j []) = argsK j := by decide +kernel
theorem bindsP_up {l : List Pr2} {n n' m : Int} (hn : n ≤ n') (h : bindsP l n m = true) : bindsP l n' m = true := by
  unfold bindsP at h ⊢
  rw [Bool.and_eq_true] at h ⊢
  refine ⟨List.all_eq_true.2 fun i hi => ?_, h.2⟩
  have := List.all_eq_true.1 h.1 i hi
  unfold bindAt okB at this ⊢
  simp only [Bool.and_eq_true, decide_eq_true_eq] at this ⊢
  exact ⟨⟨⟨⟨this.1.1.1.1, by have := this.1.1.1.2; omega⟩, this.1.1.2⟩, this.1.2⟩, this.2⟩
theorem classAt_up {l : List UClass} {n n' m : Int} {i : Nat} (hn : n ≤ n') (h : classAt l n m i = 0) : classAt l n' m i = 0 := by
  unfold classAt at h ⊢
  split at h
  · cases h
  split at h
  · cases h
  split at h
  · cases h
  rename_i h1 h2 h3
  rw [if_neg h1, if_neg h2, if_neg]
  rw [bindsP_up hn (by simpa using h3)]
  simp
theorem shapeP_up {l : List UClass} {n n' m : Int} (hn : n ≤ n') (h : shapeP l n m = 0) : shapeP l n' m = 0 := by
  unfold shapeP at h ⊢
  split at h
  · cases h
  split at h
  · cases h
  rename_i h1 h2
  rw [if_neg h1, if_neg h2]
  exact firstBad_no fun j hj => classAt_up hn (firstBad_zero h j hj)
theorem methodP_name {u : UUnit} {m : UMethod} (h : methodP u m = 0) : methodP (nameU u) m = 0 := by
  unfold methodP at h ⊢
  split at h
  · cases h
  split at h
  rotate_left
  · cases h
  rename_i h1 h2
  rw [if_neg h1, if_pos]
  simp only [Bool.and_eq_true] at h2 ⊢
  refine ⟨⟨h2.1.1, List.all_eq_true.2 fun v hv => ?_⟩, h2.2⟩
  have h3 := List.all_eq_true.1 h2.1.2 v hv
  unfold litP at h3 ⊢
  by_cases q1 : v.1 = 3
  · rw [if_pos q1] at h3 ⊢; exact h3
  rw [if_neg q1] at h3 ⊢
  by_cases q2 : v.1 = 5
  · rw [if_pos q2] at h3 ⊢
    have := of_decide_eq_true h3
    have hl : (nameU u).names.length = u.names.length + 1 := by simp [nameU]
    exact decide_eq_true (by omega)
  rw [if_neg q2] at h3 ⊢
  exact h3
theorem TQ.name {u : UUnit} (h : TQ u) : unitP (nameU u) = 0 := by
  obtain ⟨l, S, tc⟩ := h.c
  have hl : (nameU u).names.length = 7 := by show (u.names ++ [anoS]).length = 7; rw [h.n]; rfl
  have e1 : sizesP (nameU u) = true := decide_eq_true ⟨by omega, by show 1 ≤ u.methods.length; rw [h.m9]; decide, by show u.methods.length ≤ 32; rw [h.m9]; decide, h.o1, by have := h.o5; show u.objects.length ≤ 40; omega⟩
  have e2 : namesP (nameU u).names = true := by show namesP (u.names ++ [anoS]) = true; rw [h.n]; exact nms_ok2
  have e3 : shapeP (nameU u).classes (nameU u).names.length (nameU u).methods.length = 0 := by
    rw [hl]
    show shapeP u.classes _ u.methods.length = 0
    rw [h.m9]
    exact shapeP_up (by decide) tc.shape
  have hm := h.meths
  have e4 : methodsP (nameU u) = 0 := by
    unfold methodsP at hm
    split at hm
    · cases hm
    rename_i k1
    split at hm
    · rename_i k2; exact absurd hm k2
    rename_i k2
    have q2 : firstBad u.methods.length (badMeth u) = 0 := Classical.byContradiction k2
    have q3 : firstBad (nameU u).methods.length (badMeth (nameU u)) = 0 := firstBad_no fun j hj => methodP_name (firstBad_zero q2 j hj)
    have q4 : ((nameU u).classes.any fun c => c.binds.any (badBind (nameU u))) = false := by
      refine List.any_eq_false.2 fun c hc => ?_
      have : c.binds.any (badBind (nameU u)) = false := by
        rcases tc.bind hc with e | ⟨S, e⟩
        · rw [e]; rfl
        · rw [e]
          refine List.any_eq_false.2 fun b hb => ?_
          obtain ⟨j, hj, rfl⟩ := selS_mem hb
          have e5 : (nameU u).names = nmsU ++ [anoS] := by rw [← h.n]; rfl
          have e6 : mAt (nameU u) j = mAt u j := rfl
          simp only [badBind, Int.toNat_natCast]
          rw [e5, nms_args2 j hj, e6, h.argsQ (by omega), if_neg (by omega)]
          simp
      simp [this]
    unfold methodsP
    rw [if_neg (show ¬ (nameU u).classes.any badDict = true from k1), q3, q4]
    rfl
  have e5 : (nameU u).objects.all (objP (nameU u)) = true := List.all_eq_true.2 fun o ho => h.obj ho
  have e6 : mainP (nameU u) = true := by
    show (decide (0 ≤ u.main ∧ u.main < u.methods.length) && decide ((mAt u u.main.toNat).args = 0)) = true
    rw [h.m, h.m9, show (6 : Int).toNat = 6 from rfl, h.argsQ (by omega)]; rfl
  unfold unitP
  rw [e1, e2, e3, e4, e5, e6]
  rfl
theorem name_len (u : UUnit) : (bytesP (nameU u)).length = (bytesP u).length + 11 := by
  simp only [bytesP, unB, nameU, rowB, List.length_append, b4_len, List.flatMap_append, List.flatMap_cons, List.flatMap_nil, textB, anoS, List.length_cons, List.length_nil]
  omega
theorem prs_len : ∀ l : List Pr2, (l.flatMap prB).length = 8 * l.length
  | [] => rfl
  | p :: l => by rw [List.flatMap_cons, List.length_append, prs_len l, List.length_append, b4_len, b4_len, List.length_cons]; omega
theorem more_len (u : UUnit) (k : Nat) : (bytesP (moreU u k)).length = (bytesP u).length + 8 + 8 * k := by
  simp only [bytesP, unB, moreU, rowB, List.length_append, b4_len, List.flatMap_append, List.flatMap_cons, List.flatMap_nil, obB, prs_len, List.length_replicate, List.length_cons, List.length_nil]
  omega
set_option maxHeartbeats 8000000
theorem c_ImageCounts {H : AHeap} {l : List Int} {v : AV} (h : SlE InE 1 H l [v]) (n : Int) : CW MN 7 [v, .int .i64 n] H fun w H' => w = .bool true ∧ Sm H H' := by
  refine CW_of (fn := af7) rfl ?_
  dsimp only [af7, qm, q, qG, qn, qi, qb, qB, qk, qc, qo, qg, qv, qr]
  obtain ⟨la, ls, lk, rfl, -⟩ := h.shape
  simp -implicitDefEqProofs only [eqA, eqD, go_sem]
  refine CW.mono (c_unitOf h) ?_
  rintro _ H1 ⟨u, cu, rfl, hu, tq, s1⟩
  have hr := tq.right
  have hl24 := bytesP_min u
  have hl50 := (fitU_of hr).len
  have ho5 := tq.o5
  have hnl : u.names.length = 6 := by rw [tq.n]; rfl
  obtain ⟨a1, z1, c1, a2, z2, c2, a3, z3, c3, a4, z4, c4, rfl⟩ := hu.sh
  obtain ⟨H2, e2, n2, s2, r2⟩ := store_new H1 zA5 [.slice a1 z1 u.names.length c1, .slice a2 z2 u.classes.length c2, .slice a3 z3 u.methods.length c3, .slice a4 z4 u.objects.length c4, .int .i64 u.main] rfl
  have hu2 := MonoE.un _ _ _ _ hu s2
  have l2 := r2.load (n := 5) rfl
  simp -implicitDefEqProofs only [e2, l2, eqA, eqD, go_sem]
  refine CW.mono (c_Size hu2) ?_
  rintro w H3 ⟨s3, rfl⟩
  rw [if_pos hr]
  have r3 := r2.keep s3.1 (s3.gt r2.1)
  have l3 := r3.load (n := 5) rfl
  obtain ⟨H4, e4, n4, s4, a4'⟩ := store_own H3 zA5 [.slice a1 z1 u.names.length c1, .slice a2 z2 u.classes.length c2, .slice a3 z3 u.methods.length c3, .slice a4 z4 u.objects.length c4, .int .i64 u.main] rfl
  have s24 := s3.trans s4
  -- the names
  have S1 := Chg.newRow H4 []
  have A1 := Arr.newRow H4 [] fun _ => False
  have N1 : (H4.newRow []).next = H4.next + 1 := rfl
  generalize eK1 : H4.newRow [] = L1 at S1 A1 N1
  have r5 := (r3.keep s4.1 (s4.gt r3.1)).keep S1.1 (S1.gt (by have := s4.1; have := r3.1; omega))
  have f0 := r5.one (j := 0) rfl
  rw [Nat.zero_add] at f0
  obtain ⟨_, _, _, _, he, hmn, q1, q2, q3, q4⟩ := id hu2
  cases he
  obtain ⟨x, cl, cs, L2, e5, S2, hx, RB⟩ := app_row (bytes := 16) MonoE.enc q1 (s24.trans S1) A1 (by omega) (by omega)
  have p2 := RB.l
  have N2 := S2.1
  have S3 := Chg.newRow L2 [.str anoS]
  have R3 := Rd.newRow L2 [.str anoS]
  have N3 : (L2.newRow [.str anoS]).next = L2.next + 1 := rfl
  have eK3' : L2.newRow [.str [97, 110, 111, 116, 104, 101, 114]] = L2.newRow [.str anoS] := rfl
  generalize eK3 : L2.newRow [.str anoS] = L3 at S3 R3 N3 eK3'
  obtain ⟨L4, e6, n6, kp6, R6⟩ := app_src (cl := cl) (bytes := 16) (m := 1) (RB.a.sm S3) p2 (srcA_slice (s' := 1) (cl := true) R3 rfl) (by omega) rfl (by omega) (by omega)
  have s14 : Sm H4 L4 := Sm.of (by have := S1.1; omega) fun z hz => by rw [kp6 z (by omega) (by omega), S3.gt (by omega), S2.gt (by omega), S1.gt hz]
  obtain ⟨L5, e7, n7, A7, g7⟩ := (a4'.sm s14).store (o := 0) (vs := [.slice (some (L3.next, 0)) 1 (u.names.length + 1) false]) (cs' := [.slice (some (L3.next, 0)) 1 (u.names.length + 1) false, .slice a2 z2 u.classes.length c2, .slice a3 z3 u.methods.length c3, .slice a4 z4 u.objects.length c4, .int .i64 u.main]) (by simp) rfl
  have g7' : ∀ z, z ≠ H3.next → L5.get z = L4.get z := fun z hz => g7 z hz (fun h => h)
  have s35 : Sm H3 L5 := Sm.of (by have := s14.1; omega) fun z hz => by rw [g7' z (by omega), s14.gt (by omega), s4.gt hz]
  have s25 : Sm H2 L5 := s3.trans s35
  have l7 := A7.rd.load (n := 5) rfl
  have uN : UnE L5 (nameU u) [.slice (some (L3.next, 0)) 1 (u.names.length + 1) false, .slice a2 z2 u.classes.length c2, .slice a3 z3 u.methods.length c3, .slice a4 z4 u.objects.length c4, .int .i64 u.main] := by
    obtain ⟨_, _, _, _, he, hmn', q1', q2', q3', q4'⟩ := MonoE.un _ _ _ _ hu2 s25
    cases he
    refine ⟨_, _, _, _, rfl, hmn', ?_, q2', q3', q4'⟩
    have hl2 : (u.names ++ [anoS]).length = u.names.length + 1 := by simp
    have r7 : Rd L5 L3.next 0 (cs ++ [.str anoS]) := R6.keep (by omega) (g7' _ (by omega))
    show SlE StE 1 L5 (u.names ++ [anoS]) _
    refine SlE.new MonoE.enc r7 hl2.symm (by rw [List.length_append, p2, hl2]; simp) (by rw [hl2]; unfold maxLen; omega) fun j hj => ?_
    by_cases hlt : j < u.names.length
    · rw [List.drop_append_of_le_length (by omega), List.take_append_of_le_length (by simp; omega), List.getElem_append_left hlt]
      exact MonoE.enc _ _ _ _ (RB.e j hlt) s25
    · obtain rfl : j = u.names.length := by omega
      rw [← p2, List.drop_left, List.getElem_append_right (Nat.le_refl _)]
      simp only [Nat.sub_self, List.getElem_cons_zero]
      exact ⟨rfl, by simp [stOk, anoS]⟩
  simp -implicitDefEqProofs only [l3, e4, eK1, eK3', f0, e5, e6, e7, l7, eqA, eqD, go_sem]
  refine CW.mono (c_Size uN) ?_
  rintro w H5 ⟨s5, rfl⟩
  rw [if_pos tq.name, name_len]
  clear l7 A7 g7 e7 e6 kp6 R6 RB e5 f0 r5 S1 A1 S2 S3 R3 N1 N2 N3 eK1 eK3 eK3' p2 hx g7' a4' l3 e4
  have s25' := s25.trans s5
  have r5 := r2.keep s25'.1 (s25'.gt r2.1)
  have l5 := r5.load (n := 5) rfl
  obtain ⟨H6, e6, n6, s6, a6⟩ := store_own H5 zA5 [.slice a1 z1 u.names.length c1, .slice a2 z2 u.classes.length c2, .slice a3 z3 u.methods.length c3, .slice a4 z4 u.objects.length c4, .int .i64 u.main] rfl
  simp -implicitDefEqProofs only [l5, e6, eqA, eqD, go_sem]
  refine CW.mono (c_withinN n 0 20 H6 (by omega) (by omega) (by omega)) ?_
  rintro _ K ⟨⟨k, rfl, hk0, hk1⟩, rfl⟩
  obtain ⟨k, rfl⟩ : ∃ j : Nat, k = (j : Int) := ⟨k.toNat, by omega⟩
  have s2K := s25'.trans s6
  have S1 := Chg.newRow K []
  have A1 := Arr.newRow K [] fun _ => False
  have N1 : (K.newRow []).next = K.next + 1 := rfl
  generalize eK1 : K.newRow [] = L1 at S1 A1 N1
  have S2 := Chg.newRow L1 ((List.replicate k [AV.int .i64 0, .int .i64 0]).flatten)
  have R2 := Rd.newRow L1 ((List.replicate k [AV.int .i64 0, .int .i64 0]).flatten)
  have N2 : (L1.newRow ((List.replicate k [AV.int .i64 0, .int .i64 0]).flatten)).next = L1.next + 1 := rfl
  generalize eK2 : L1.newRow ((List.replicate k [AV.int .i64 0, .int .i64 0]).flatten) = L2 at S2 R2 N2
  have S3 := Chg.newRow L2 [.int .i64 1, .slice (some (L1.next, 0)) 2 k true]
  have R3 := Rd.newRow L2 [.int .i64 1, .slice (some (L1.next, 0)) 2 k true]
  have N3 : (L2.newRow [.int .i64 1, .slice (some (L1.next, 0)) 2 k true]).next = L2.next + 1 := rfl
  generalize eK3 : L2.newRow [.int .i64 1, .slice (some (L1.next, 0)) 2 k true] = L3 at S3 R3 N3
  have S13 := (S1.trans S2).trans S3
  have n2K := s2K.1
  obtain ⟨x, cl, cs, L4, e4, S4, hx, RB⟩ := app_row (bytes := 32) MonoE.ob q4 (s2K.trans S13) ((A1.sm S2).sm S3) (by omega) (by omega)
  have p2 := RB.l
  have N4 := S4.1
  have hsr : srcA L4 2 false (.slice (some (L2.next, 0)) 2 1 true) = some ([.int .i64 1, .slice (some (L1.next, 0)) 2 k true], 1) := srcA_slice (R3.keep S4.1 (S4.gt R3.1)) rfl
  obtain ⟨L5', e5, n5, kp5, R5⟩ := app_src (cl := cl) (bytes := 32) (m := 1) RB.a p2 hsr (by omega) rfl (by omega) (by omega)
  have hxK : K.next ≤ x := by omega
  have s04 : Sm K L4 := S13.trans S4
  have s05 : Sm K L5' := Sm.of (by have := s04.1; omega) fun z hz => by rw [kp5 z (by have := s04.1; omega) (by omega), s04.gt hz]
  obtain ⟨L6, e6', n6', A6, g6⟩ := (a6.sm s05).store (o := 3) (vs := [.slice (some (L4.next, 0)) 2 (u.objects.length + 1) false]) (cs' := [.slice a1 z1 u.names.length c1, .slice a2 z2 u.classes.length c2, .slice a3 z3 u.methods.length c3, .slice (some (L4.next, 0)) 2 (u.objects.length + 1) false, .int .i64 u.main]) (by simp) rfl
  have g6' : ∀ z, z ≠ H5.next → L6.get z = L5'.get z := fun z hz => g6 z hz (fun h => h)
  have s56 : Sm H5 L6 := Sm.of (by have := s05.1; omega) fun z hz => by rw [g6' z (by omega), s05.gt (by omega), s6.gt hz]
  have s26 : Sm H2 L6 := s25'.trans s56
  have r6 : Rd L6 L4.next 0 (cs ++ [.int .i64 1, .slice (some (L1.next, 0)) 2 k true]) := R5.keep (by omega) (g6' _ (by omega))
  have rz : Rd L6 L1.next 0 ((List.replicate k [AV.int .i64 0, .int .i64 0]).flatten) := R2.keep (by omega) (by rw [g6' _ (by omega), kp5 _ (by omega) (by omega), S4.gt (by omega), S3.gt (by omega)])
  have hl2 : (u.objects ++ [(⟨1, List.replicate k (0, 0)⟩ : UObj)]).length = u.objects.length + 1 := by simp
  have uM : UnE L6 (moreU u k) [.slice a1 z1 u.names.length c1, .slice a2 z2 u.classes.length c2, .slice a3 z3 u.methods.length c3, .slice (some (L4.next, 0)) 2 (u.objects.length + 1) false, .int .i64 u.main] := by
    obtain ⟨_, _, _, _, he, hmn', q1', q2', q3', q4'⟩ := MonoE.un _ _ _ _ hu2 s26
    cases he
    have q4n : SlE ObE 2 L6 (u.objects ++ [(⟨1, List.replicate k (0, 0)⟩ : UObj)]) [.slice (some (L4.next, 0)) 2 (u.objects.length + 1) false] := by
      refine SlE.new MonoE.ob r6 hl2.symm (by rw [List.length_append, p2, hl2]; simp; omega) (by rw [hl2]; unfold maxLen; omega) fun j hj => ?_
      by_cases hlt : j < u.objects.length
      · have hle : (j + 1) * 2 ≤ u.objects.length * 2 := Nat.mul_le_mul_right _ (by omega)
        rw [List.drop_append_of_le_length (by omega), List.take_append_of_le_length (by simp; omega), List.getElem_append_left hlt]
        exact MonoE.ob _ _ _ _ (RB.e j hlt) s26
      · obtain rfl : j = u.objects.length := by omega
        rw [← p2, List.drop_left, List.getElem_append_right (Nat.le_refl _)]
        simp only [Nat.sub_self, List.getElem_cons_zero]
        refine ⟨_, rfl, by simp [I64], ?_⟩
        refine SlE.new MonoE.enc rz (by simp) (by simp) (by simp; unfold maxLen; omega) fun j hj => ?_
        rw [List.length_replicate] at hj
        rw [List.getElem_replicate]
        exact ⟨zeros_at hj, by simp [prOk, I64]⟩
    exact ⟨_, _, _, _, rfl, hmn, q1', q2', q3', q4n⟩
  have r2K := r2.keep s2K.1 (s2K.gt r2.1)
  have hKn := r2K.1
  have d3 := r2K.one (j := 3) rfl
  rw [Nat.zero_add] at d3
  have f1 : loadA L1 H1.next 3 1 = some [.slice a4 z4 u.objects.length c4] := by rw [S1.ld hKn, d3]
  have f2 : loadA L2 H1.next 3 1 = some [.slice a4 z4 u.objects.length c4] := by rw [(S1.trans S2).ld hKn, d3]
  have f4 : loadA L4 H1.next 3 1 = some [.slice a4 z4 u.objects.length c4] := by rw [s04.ld hKn, d3]
  have f3 : loadA L3 H1.next 3 1 = some [.slice a4 z4 u.objects.length c4] := by rw [S13.ld hKn, d3]
  have k16 : (k : Int) * 16 ≤ 140737488355328 := by omega
  have kM : (k : Int) ≤ 9223372036854775807 := by omega
  have f6 : loadA L6 H5.next 0 5 = some [.slice a1 z1 u.names.length c1, .slice a2 z2 u.classes.length c2, .slice a3 z3 u.methods.length c3, .slice (some (L4.next, 0)) 2 (u.objects.length + 1) false, .int .i64 u.main] := A6.rd.load rfl
  simp -implicitDefEqProofs only [eK1, eK2, eK3, d3, f1, f2, f3, f4, e4, k16, kM, hk0, e5, e6', f6, eqA, eqD, go_sem]
  refine CW.mono (c_Size uM) ?_
  rintro w G ⟨s7, rfl⟩
  rw [if_pos (tq.more (by omega)), more_len]
  have w1 : IntKind.i64.wrap (((bytesP u).length : Int) + 11) = (((bytesP u).length + 11 : Nat) : Int) := by rw [wrap64 (by omega) (by omega)]; omega
  have w2 : IntKind.i64.wrap (((bytesP u).length : Int) + 8) = ((bytesP u).length : Int) + 8 := wrap64 (by omega) (by omega)
  have w3 : IntKind.i64.wrap (8 * (k : Int)) = 8 * (k : Int) := wrap64 (by omega) (by omega)
  have w4 : IntKind.i64.wrap (((bytesP u).length : Int) + 8 + 8 * (k : Int)) = (((bytesP u).length + 8 + 8 * k : Nat) : Int) := by rw [wrap64 (by omega) (by omega)]; omega
  simp -implicitDefEqProofs only [w1, w2, w3, w4, BEq.rfl, eqA, eqD, go_sem]
  refine CW.mono (c_known16 G) ?_
  rintro w H12 ⟨rfl, s12⟩
  simp -implicitDefEqProofs only [BEq.rfl, eqA, eqD, go_sem]
  exact (((s1.trans s2).trans s26).trans s7).trans s12
set_option maxHeartbeats 8000000
theorem TQ.short {u : UUnit} (h : TQ u) : (bytesP u).length ≤ 4000 := by
  obtain ⟨l, S, tc⟩ := h.c
  have n3 := tc.f.n3; have n5 := tc.f.n5; have hn := tc.n
  have h1 : (rowB textB u.names).length = 44 := by rw [h.n]; rfl
  have h2 := rowB_len (f := clB) (k := 80) (l := u.classes) (m := 5) (by omega) fun c hc => by
    have hb : c.binds.length ≤ 6 := by
      rcases tc.bind hc with e | ⟨S, e⟩
      · rw [e]; simp
      · rw [e]; exact selS_len S 6
    have hnm : c.name.length ≤ 5 := by
      obtain ⟨j, hj, rfl⟩ := List.mem_iff_getElem.1 hc
      have e := tc.e j (by omega)
      rw [clAt_nat hj] at e
      rw [e]
      dsimp only
      rcases (by omega : j = 0 ∨ j = 1 ∨ 2 ≤ j) with rfl | rfl | h2
      · rw [show ((0 : Nat) : Int) = 0 from rfl, tc.f.c0]; decide
      · rw [show ((1 : Nat) : Int) = 1 from rfl, tc.f.c1]; decide
      · rw [(tc.f.c j h2 (by omega)).1]; simp
    simp only [clB, textB, rowB, List.length_append, b4_len, prs_len]; omega
  have h3 := rowB_len (f := meB) (k := 200) (l := u.methods) (m := 9) (by have := h.m9; omega) fun m hm => by
    obtain ⟨j, hj, rfl⟩ := List.mem_iff_getElem.1 hm
    have h1 := h.ma j (by have := h.m9; omega)
    rw [mAt_nat hj] at h1
    have hl := h1.2.2.1.len
    obtain ⟨-, -, -, l', e, h4, -, -, h7⟩ := h1
    have hcd : u.methods[j].code.length ≤ 62 := by rw [h4, flatI_len, List.length_append, List.length_singleton]; omega
    simp only [meB, textB, rowB, List.length_append, b4_len, prs_len]; omega
  have h4 := rowB_len (f := obB) (k := 80) (l := u.objects) (m := 5) (by have := h.o5; omega) fun o ho => by
    have hf : o.fields.length ≤ 8 := by
      rcases (h.o o ho).1 with ⟨-, q⟩ | ⟨q1, q2, q3⟩
      · exact q
      · obtain ⟨j, hj⟩ : ∃ j : Nat, o.cls = (j : Int) := ⟨o.cls.toNat, by omega⟩
        have e := tc.e j (by omega)
        have e2 := (tc.f.c j (by omega) (by omega)).2.2.1
        rw [hj, e] at q3
        dsimp only at q3
        omega
    simp only [obB, rowB, List.length_append, b4_len, prs_len]; omega
  unfold bytesP unB markB
  simp only [List.length_append, b4_len, List.length_cons, List.length_nil]
  omega
set_option maxHeartbeats 8000000
theorem TQ.sm {u : UUnit} (h : TQ u) : SmU 64 u ∧ GeU u := by
  obtain ⟨l, S, tc⟩ := h.c
  have n3 := tc.f.n3; have n5 := tc.f.n5; have hn := tc.n
  have hm : ∀ m, m ∈ u.methods → ∃ a, methOk u.classes.length a m := fun m hm => by
    obtain ⟨j, hj, rfl⟩ := List.mem_iff_getElem.1 hm
    have := h.ma j (by have := h.m9; omega)
    rw [mAt_nat hj] at this
    exact ⟨_, this⟩
  refine ⟨⟨by rw [h.n]; decide, by omega, by rw [h.m9]; decide, by have := h.o5; omega, fun c hc => ?_, fun m hx => ?_, fun m hx => ?_, fun o ho => ?_⟩, ⟨by omega, by rw [h.m9]; decide, h.o1⟩⟩
  · rcases tc.bind hc with e | ⟨S, e⟩
    · rw [e]; decide
    · rw [e]; have := selS_len S 6; omega
  · obtain ⟨a, h1⟩ := hm m hx
    rw [h1.2.2.1.len]; decide
  · obtain ⟨a, -, -, -, l, e, h4, -, -, h7⟩ := hm m hx
    rw [h4, flatI_len, List.length_append, List.length_singleton]; omega
  · have hp := h.obj ho
    unfold objP at hp
    have hs2 := of_decide_eq_true (Bool.and_eq_true _ _ ▸ hp).1
    omega
set_option maxHeartbeats 8000000
end Go.Proofs.YtojeldemfccilaaGreatDoor.AA
