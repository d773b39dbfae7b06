/- The five laws. -/
import Derived.Test.YtojeldemfccilaaGreatDoorKImgJ
set_option linter.unusedSimpArgs false
set_option linter.unusedVariables false
namespace Go.Proofs.YtojeldemfccilaaGreatDoor.AA
open Go Go.RowKit
set_option maxRecDepth 100000
set_option maxHeartbeats 8000000
attribute [local irreducible] Tr.set
theorem tape_row {H : AHeap} {l : List Int} {v : AV} (h : SlE InE 1 H l [v]) : TapeR (H.newRow [v, .int .i64 0]) H.next := by
  obtain ⟨a, s0, cl, rfl, -⟩ := h.shape
  exact ⟨H, l, a, s0, cl, 0, Nat.le_refl _, Chg.newRow H _, h, Nat.zero_le _, Arr.newRow H _ _⟩
theorem c_unitOf {H : AHeap} {l : List Int} {v : AV} (h : SlE InE 1 H l [v]) : CW MN 9 [.ptr (some (H.next, 0))] (H.newRow [v, .int .i64 0]) fun w H' => ∃ u cu, w = .agg cu ∧ UnE H' u cu ∧ TQ u ∧ Sm H H' :=
  (c_Unit (tape_row h)).mono fun w H' ⟨u, cu, h1, h2, h3, h4, h5⟩ => ⟨u, cu, h1, h2, h3.tq, Sm.of (by rw [show (H.newRow [v, .int .i64 0]).next = H.next + 1 from rfl] at h4; omega) fun z hz => by
    rw [h5 z (by rw [show (H.newRow [v, .int .i64 0]).next = H.next + 1 from rfl]; omega) (by omega), (Chg.newRow H _).gt hz]⟩
theorem ByE.src {H : AHeap} {d : List Nat} {v : AV} (h : SlE ByE 1 H d [v]) : srcA H 1 false v = some (d.flatMap byC, d.length) := by
  obtain ⟨a, s0, cl, rfl, -⟩ := h.shape
  obtain ⟨cs, q1, q2, q3⟩ := SlE.row MonoE.enc h
  have hcs : cs = d.flatMap byC := by
    rw [bytes_map]
    refine List.ext_getElem (by rw [q2, List.length_map, Nat.mul_one]) fun j h1 h2 => ?_
    have hj : j < d.length := by rw [List.length_map] at h2; exact h2
    have e := (q3 j hj).1
    rw [Nat.mul_one] at e
    have e2 : ((cs.drop j).take 1)[0]? = some cs[j] := by
      rw [List.getElem?_take, if_pos (by omega), List.getElem?_drop, Nat.add_zero, List.getElem?_eq_getElem h1]
    rw [e] at e2
    rw [List.getElem_map]
    exact (Option.some.inj e2).symm
  rw [q1, hcs]
theorem bg_pre {H : AHeap} {d : List Nat} {x o n : Nat} {cl : Bool} (h : SlE ByE 1 H d [.slice (some (x, o)) 1 n cl]) (h0 : d.length ≠ 0) {k : Nat} (hk : k ≤ d.length) : BG 0 H (d.take k) (.slice (some (x, o)) 1 k true) := by
  have hl := ByE.lt h
  obtain ⟨cs, q1, q2, q3⟩ := SlE.row MonoE.enc h
  obtain ⟨a, s0, cl', e, k0, k1, kk⟩ := id h
  cases e
  obtain ⟨x', o', cs', e, hr, hlen, hj⟩ := kk h0
  cases e
  have hcs : cs' = d.flatMap byC := by
    have e := ByE.src h
    rw [srcA_slice hr hlen] at e
    injection e with e
    injection e
  subst hcs
  have hkl : (d.take k).length = k := by rw [List.length_take]; omega
  refine ⟨.inr ⟨x, o, true, by rw [hkl], Nat.zero_le _, by rw [byC_len, Nat.mul_one], ?_, fun h => by cases h⟩, fun x hx => hl x (List.mem_of_mem_take hx)⟩
  have := hr.pre k
  rw [bytes_map, ← List.map_take, ← bytes_map] at this
  exact this
theorem ByE.pt {H : AHeap} {d : List Nat} {v : AV} (h : SlE ByE 1 H d [v]) (h0 : d.length ≠ 0) : ∃ x o cl, v = .slice (some (x, o)) 1 d.length cl := by
  obtain ⟨a, s0, cl, e, k0, k1, k⟩ := h
  cases e
  obtain ⟨x, o, cs, rfl, hr, hl, hj⟩ := k h0
  rcases k0 with e | rfl
  · cases e
  · exact ⟨x, o, cl, rfl⟩
theorem ByE.bg {H : AHeap} {d : List Nat} {v : AV} (h : SlE ByE 1 H d [v]) (hu : ub v = none) (h0 : d.length ≠ 0) : BG 0 H d v := by
  obtain ⟨x, o, cl, rfl⟩ := ByE.pt h h0
  cases cl with
  | false => cases hu
  | true =>
    have := bg_pre h h0 (Nat.le_refl _)
    rwa [List.take_length] at this
theorem BS.all {v w : AV} {H H' : AHeap} (b : BS v w H H') (hu : ub v = none) : Sm H H' := Sm.of b.n fun x hx => b.k x hx (by rw [hu]; simp)
attribute [local go_sem ↓] exA_lookup stepA_lookup exA_mapUpd WP_seq WP_skip WP_region WP_dregion WP_cond WP_block WP_exit WP_ret OW_nil OW_cons DW_nil DW_cons XW_call reduceIte OW_guard DW_guard
attribute [local go_sem] LkA_some EvA_some updM_some at0 at1 XW exA KO_eq OptK_some EvK_some GW2_true GW2_false KS_normal KS_ret KS_exit KB_normal KB_ret KB_exit CP2_bool RP_ret putA_some putA_none ev_t ev_c evs evo wantA initA resA Tr.get_set vl chkOk cond_true cond_false Nat.add_zero Nat.mul_one Nat.one_mul Nat.zero_add Nat.zero_mul aggOf pInt binA unA intA beq_true beq_false Bool.not_true Bool.not_false Bool.not_eq_true and_self and_true true_and reduceIte Nat.reduceEqDiff Nat.succ_ne_self Nat.reduceAdd Nat.reduceMul Nat.reduceSub Nat.reduceBEq Nat.reduceLT Nat.reduceLeDiff Int.cast_ofNat_Int Int.reduceToNat Int.reduceLT Int.reduceLE Int.reduceGE Int.reduceGT Int.reduceEq Int.reduceNe Int.reduceAdd Int.reduceSub Int.reduceNeg decide_true decide_false Int.toNat_natCast reduceCtorEq List.nil_append List.cons_append AV.boxy AV.cells List.length_cons List.length_nil Nat.beq_refl AOp.cl KDW_0 KDW_1 KDW_2 OWskip_eq DWskip_eq fillA setAt DChk DAt stepA ble_dec beq_dec Bool.and_self Bool.and_true Bool.true_and Bool.and_false Bool.false_and List.take_succ_cons List.take_zero List.drop_succ_cons List.drop_zero List.take_nil List.drop_nil List.append_nil eqAV eqAVL BEq.rfl sameS Option.map Option.isNone wrap64 gt_iff_lt ge_iff_le Int.lt_irrefl Int.le_refl
set_option maxHeartbeats 8000000
theorem two_new5 (H : AHeap) (zs vs ws : List AV) (hl : vs.length = zs.length) (hl2 : ws.length = zs.length) : ∃ G G2, storeA ((H.newRow zs).newRow zs) H.next 0 vs = some G ∧ storeA G (H.newRow zs).next 0 ws = some G2 ∧ Sm H G2 ∧ Rd G2 H.next 0 vs ∧ Rd G2 (H.newRow zs).next 0 ws := by
  have a1 := Arr.newRow H zs fun _ => False
  have s1 := Chg.newRow H zs
  have n1 : (H.newRow zs).next = H.next + 1 := rfl
  generalize H.newRow zs = K at *
  have a2 := Arr.newRow K zs fun _ => False
  have s2 := Chg.newRow K zs
  have n2 : (K.newRow zs).next = K.next + 1 := rfl
  have a1 := a1.sm s2
  generalize K.newRow zs = L at *
  obtain ⟨G, e1, m1, b1, p1⟩ := a1.store (o := 0) (vs := vs) (cs' := vs) (by omega) (by simp [setAt]; omega)
  have a2 : Arr G K.next zs fun _ => False := a2.keep (by omega) (p1 _ (by omega) fun h => h)
  obtain ⟨G2, e2, m2, b2, p2⟩ := a2.store (o := 0) (vs := ws) (cs' := ws) (by omega) (by simp [setAt]; omega)
  exact ⟨G, G2, e1, e2, Sm.of (by omega) fun x hx => by rw [p2 x (by omega) fun h => h, p1 x (by omega) fun h => h, s2.gt (by omega), s1.gt hx], b1.rd.keep (by omega) (p2 _ (by omega) fun h => h), b2.rd⟩
theorem c_ImageApart {H : AHeap} {l l2 : List Int} {v v2 : AV} (h : SlE InE 1 H l [v]) (h2 : SlE InE 1 H l2 [v2]) : CW MN 6 [v, v2] H fun w H' => w = .bool true ∧ Sm H H' := by
  refine CW_of (fn := af6) rfl ?_
  dsimp only [af6, qm, q, qG, qn, qi, qb, qB, qk, qc, qo, qg, qv, qr]
  obtain ⟨la, ls, lk, rfl, -⟩ := h.shape
  obtain ⟨ma, ms, mk, rfl, -⟩ := h2.shape
  simp -implicitDefEqProofs only [eqA, eqD, go_sem]
  refine CW.mono (c_unitOf h) ?_
  rintro _ H1 ⟨u, cu, rfl, hu, tq, s1⟩
  simp -implicitDefEqProofs only [eqA, eqD, go_sem]
  refine CW.mono (c_unitOf (MonoE.enc.sl _ _ _ _ h2 s1)) ?_
  rintro _ H2 ⟨u2, cu2, rfl, hu2, tq2, s2⟩
  have hr := tq.right
  have hr2 := tq2.right
  have hu' := MonoE.un _ _ _ _ hu s2
  obtain ⟨a1, z1, c1, a2, z2, c2, a3, z3, c3, a4, z4, c4, rfl⟩ := hu'.sh
  obtain ⟨b1, y1, d1, b2, y2, d2, b3, y3, d3, b4, y4, d4, rfl⟩ := hu2.sh
  obtain ⟨G, G2, e1, e2, s3, r1, r2⟩ := two_new5 H2 zA5 [.slice a1 z1 u.names.length c1, .slice a2 z2 u.classes.length c2, .slice a3 z3 u.methods.length c3, .slice a4 z4 u.objects.length c4, .int .i64 u.main] [.slice b1 y1 u2.names.length d1, .slice b2 y2 u2.classes.length d2, .slice b3 y3 u2.methods.length d3, .slice b4 y4 u2.objects.length d4, .int .i64 u2.main] rfl rfl
  have hu' := MonoE.un _ _ _ _ hu' s3
  have hu2 := MonoE.un _ _ _ _ hu2 s3
  have l1 := r1.load (n := 5) rfl
  have l2' := r2.load (n := 5) rfl
  simp -implicitDefEqProofs only [e1, e2, l1, eqA, eqD, go_sem]
  refine CW.mono (c_iBytes hu') ?_
  rintro w H3 ⟨s4, hb⟩
  obtain ⟨ba, rfl, sa, -⟩ := hb.ok hr
  have m2 := (s4.ld r2.1).trans l2'
  simp -implicitDefEqProofs only [m2, eqA, eqD, go_sem]
  refine CW.mono (c_iBytes (MonoE.un _ _ _ _ hu2 s4)) ?_
  rintro w H4 ⟨s5, hb2⟩
  obtain ⟨bb, rfl, sb, -⟩ := hb2.ok hr2
  have sa4 := MonoE.enc.sl _ _ _ _ sa s5
  have t1 := ByE.str sa4
  have t2 := ByE.str sb
  obtain ⟨ab, zb, cb, rfl⟩ := SlE.shape3 sa
  obtain ⟨ae, ze, ce, rfl⟩ := SlE.shape3 sb
  have s45 := s4.trans s5
  have n1 := (s45.ld r1.1).trans l1
  have n2 := (s45.ld r2.1).trans l2'
  have hu4 := MonoE.un _ _ _ _ hu' s45
  have z0 : ((0 : Int) == 0) = true := rfl
  have ed : (bytesP u == bytesP u2) = decide (u = u2) := Bool.eq_iff_iff.2 (by rw [beq_iff_eq, decide_eq_true_iff]; exact ⟨bytesP_inj (fitU_of hr) (fitU_of hr2), fun e => by rw [e]⟩)
  simp -implicitDefEqProofs only [n1, n2, t1, t2, z0, eqStr, eqA, eqD, go_sem]
  refine CW.mono (c_rSame hu4 (MonoE.un _ _ _ _ hu2 s45)) ?_
  rintro w H5 ⟨rfl, s6⟩
  have p1 := (s6.ld (by have := s45.1; have := r1.1; omega)).trans n1
  have q1 := ByE.str (MonoE.enc.sl _ _ _ _ sa4 s6)
  have q2 := ByE.str (MonoE.enc.sl _ _ _ _ sb s6)
  simp -implicitDefEqProofs only [p1, ed, BEq.rfl, eqA, eqD, go_sem]
  refine CW.mono (c_Size (MonoE.un _ _ _ _ hu4 s6)) ?_
  rintro w H6 ⟨s7, rfl⟩
  rw [if_pos hr]
  simp -implicitDefEqProofs only [p1, BEq.rfl, eqA, eqD, go_sem]
  refine CW.mono (c_known16 H6) ?_
  rintro w H7 ⟨rfl, s8⟩
  simp -implicitDefEqProofs only [n1, n2, p1, t1, t2, q1, q2, BEq.rfl, eqA, eqD, go_sem]
  exact (((s1.trans s2).trans s3).trans s45).trans ((s6.trans s7).trans s8)
set_option maxHeartbeats 8000000
set_option maxHeartbeats 8000000
def moreU (u : UUnit) (k : Nat) : UUnit := ⟨u.names, u.classes, u.methods, u.objects ++ [⟨1, List.replicate k (0, 0)⟩], u.main⟩
theorem TQ.more {u : UUnit} (h : TQ u) {k : Nat} (hk : k ≤ 62) : unitP (moreU u k) = 0 := by
  obtain ⟨l, S, tc⟩ := h.c
  have n3 := tc.f.n3; have hn := tc.n
  have hl : (moreU u k).objects.length = u.objects.length + 1 := by simp [moreU]
  have e1 : sizesP (moreU u k) = true := decide_eq_true ⟨by show u.names.length ≤ 48; rw [h.n]; decide, by show 1 ≤ u.methods.length; rw [h.m9]; decide, by show u.methods.length ≤ 32; rw [h.m9]; decide, by omega, by have := h.o5; omega⟩
  have e2 : namesP (moreU u k).names = true := by show namesP u.names = true; rw [h.n]; exact names_ok
  have e3 : shapeP (moreU u k).classes (moreU u k).names.length (moreU u k).methods.length = 0 := by show shapeP u.classes u.names.length u.methods.length = 0; rw [h.n, h.m9]; exact tc.shape
  have e5 : methodsP (moreU u k) = 0 := h.meths
  have e6 : mainP (moreU u k) = true := by
    show (decide (0 ≤ u.main ∧ u.main < u.methods.length) && decide ((mAt u u.main.toNat).args = 0)) = true
    rw [h.m, h.m9, show (6 : Int).toNat = 6 from rfl, h.argsQ (by omega)]; rfl
  have e4 : (moreU u k).objects.all (objP (moreU u k)) = true := List.all_eq_true.2 fun o ho => by
    rcases List.mem_append.1 (show o ∈ u.objects ++ [⟨1, List.replicate k (0, 0)⟩] from ho) with ho | ho
    · have hp := h.obj ho
      unfold objP at hp ⊢
      have hp' := Bool.and_eq_true _ _ ▸ hp
      have h1 : decide (1 ≤ o.cls ∧ o.cls < (moreU u k).classes.length ∧ o.fields.length ≤ 62 ∧ (1 < o.cls → (o.fields.length : Int) = (clAt (moreU u k).classes o.cls).fields)) = true := hp'.1
      rw [h1, Bool.true_and]
      refine List.all_eq_true.2 fun v hv => ?_
      have hv' := List.all_eq_true.1 hp'.2 v hv
      unfold valP at hv' ⊢
      by_cases q1 : v.1 = 0 ∨ v.1 = 1 ∨ v.1 = 2
      · rw [if_pos q1] at hv' ⊢; exact hv'
      rw [if_neg q1] at hv' ⊢
      by_cases q2 : v.1 = 3
      · rw [if_pos q2] at hv' ⊢; exact hv'
      rw [if_neg q2] at hv' ⊢
      by_cases q3 : v.1 = 4
      · rw [if_pos q3] at hv' ⊢
        have := of_decide_eq_true hv'
        exact decide_eq_true (by omega)
      rw [if_neg q3] at hv'
      cases hv'
    · obtain rfl : o = ⟨1, List.replicate k (0, 0)⟩ := by simpa using ho
      unfold objP
      rw [decide_eq_true, Bool.true_and]
      · refine List.all_eq_true.2 fun v hv => ?_
        rw [(List.mem_replicate.1 hv).2]; rfl
      · refine ⟨by dsimp only; omega, ?_, by rw [List.length_replicate]; exact hk, fun h => absurd h (by dsimp only; omega)⟩
        show (1 : Int) < (u.classes.length : Int)
        omega
  unfold unitP
  rw [e1, e2, e3, e4, e5, e6]
  rfl
def anoS : List Nat := [97, 110, 111, 116, 104, 101, 114]
def nameU (u : UUnit) : UUnit := ⟨u.names ++ [anoS], u.classes, u.methods, u.objects, u.main⟩
theorem nms_ok2 : namesP (nmsU ++ [anoS]) = true := by decide +kernel
theorem nms_args2 : ∀ j, j < 6 → argsP ((nmsU ++ [anoS]).getD j []) = argsK j := by decide +kernel
theorem bindsP_up {l : List Pr2} {n n' m : Int} (hn : n ≤ n') (h : bindsP l n m = true) : bindsP l n' m = true := by
  unfold bindsP at h ⊢
  rw [Bool.and_eq_true] at h ⊢
  refine ⟨List.all_eq_true.2 fun i hi => ?_, h.2⟩
  have := List.all_eq_true.1 h.1 i hi
  unfold bindAt okB at this ⊢
  simp only [Bool.and_eq_true, decide_eq_true_eq] at this ⊢
  exact ⟨⟨⟨⟨this.1.1.1.1, by have := this.1.1.1.2; omega⟩, this.1.1.2⟩, this.1.2⟩, this.2⟩
theorem classAt_up {l : List UClass} {n n' m : Int} {i : Nat} (hn : n ≤ n') (h : classAt l n m i = 0) : classAt l n' m i = 0 := by
  unfold classAt at h ⊢
  split at h
  · cases h
  split at h
  · cases h
  split at h
  · cases h
  rename_i h1 h2 h3
  rw [if_neg h1, if_neg h2, if_neg]
  rw [bindsP_up hn (by simpa using h3)]
  simp
theorem shapeP_up {l : List UClass} {n n' m : Int} (hn : n ≤ n') (h : shapeP l n m = 0) : shapeP l n' m = 0 := by
  unfold shapeP at h ⊢
  split at h
  · cases h
  split at h
  · cases h
  rename_i h1 h2
  rw [if_neg h1, if_neg h2]
  exact firstBad_no fun j hj => classAt_up hn (firstBad_zero h j hj)
theorem methodP_name {u : UUnit} {m : UMethod} (h : methodP u m = 0) : methodP (nameU u) m = 0 := by
  unfold methodP at h ⊢
  split at h
  · cases h
  split at h
  rotate_left
  · cases h
  rename_i h1 h2
  rw [if_neg h1, if_pos]
  simp only [Bool.and_eq_true] at h2 ⊢
  refine ⟨⟨h2.1.1, List.all_eq_true.2 fun v hv => ?_⟩, h2.2⟩
  have h3 := List.all_eq_true.1 h2.1.2 v hv
  unfold litP at h3 ⊢
  by_cases q1 : v.1 = 3
  · rw [if_pos q1] at h3 ⊢; exact h3
  rw [if_neg q1] at h3 ⊢
  by_cases q2 : v.1 = 5
  · rw [if_pos q2] at h3 ⊢
    have := of_decide_eq_true h3
    have hl : (nameU u).names.length = u.names.length + 1 := by simp [nameU]
    exact decide_eq_true (by omega)
  rw [if_neg q2] at h3 ⊢
  exact h3
theorem TQ.name {u : UUnit} (h : TQ u) : unitP (nameU u) = 0 := by
  obtain ⟨l, S, tc⟩ := h.c
  have hl : (nameU u).names.length = 7 := by show (u.names ++ [anoS]).length = 7; rw [h.n]; rfl
  have e1 : sizesP (nameU u) = true := decide_eq_true ⟨by omega, by show 1 ≤ u.methods.length; rw [h.m9]; decide, by show u.methods.length ≤ 32; rw [h.m9]; decide, h.o1, by have := h.o5; show u.objects.length ≤ 40; omega⟩
  have e2 : namesP (nameU u).names = true := by show namesP (u.names ++ [anoS]) = true; rw [h.n]; exact nms_ok2
  have e3 : shapeP (nameU u).classes (nameU u).names.length (nameU u).methods.length = 0 := by
    rw [hl]
    show shapeP u.classes _ u.methods.length = 0
    rw [h.m9]
    exact shapeP_up (by decide) tc.shape
  have hm := h.meths
  have e4 : methodsP (nameU u) = 0 := by
    unfold methodsP at hm
    split at hm
    · cases hm
    rename_i k1
    split at hm
    · rename_i k2; exact absurd hm k2
    rename_i k2
    have q2 : firstBad u.methods.length (badMeth u) = 0 := Classical.byContradiction k2
    have q3 : firstBad (nameU u).methods.length (badMeth (nameU u)) = 0 := firstBad_no fun j hj => methodP_name (firstBad_zero q2 j hj)
    have q4 : ((nameU u).classes.any fun c => c.binds.any (badBind (nameU u))) = false := by
      refine List.any_eq_false.2 fun c hc => ?_
      have : c.binds.any (badBind (nameU u)) = false := by
        rcases tc.bind hc with e | ⟨S, e⟩
        · rw [e]; rfl
        · rw [e]
          refine List.any_eq_false.2 fun b hb => ?_
          obtain ⟨j, hj, rfl⟩ := selS_mem hb
          have e5 : (nameU u).names = nmsU ++ [anoS] := by rw [← h.n]; rfl
          have e6 : mAt (nameU u) j = mAt u j := rfl
          simp only [badBind, Int.toNat_natCast]
          rw [e5, nms_args2 j hj, e6, h.argsQ (by omega), if_neg (by omega)]
          simp
      simp [this]
    unfold methodsP
    rw [if_neg (show ¬ (nameU u).classes.any badDict = true from k1), q3, q4]
    rfl
  have e5 : (nameU u).objects.all (objP (nameU u)) = true := List.all_eq_true.2 fun o ho => h.obj ho
  have e6 : mainP (nameU u) = true := by
    show (decide (0 ≤ u.main ∧ u.main < u.methods.length) && decide ((mAt u u.main.toNat).args = 0)) = true
    rw [h.m, h.m9, show (6 : Int).toNat = 6 from rfl, h.argsQ (by omega)]; rfl
  unfold unitP
  rw [e1, e2, e3, e4, e5, e6]
  rfl
theorem prs_len : ∀ l : List Pr2, (l.flatMap prB).length = 8 * l.length
  | [] => rfl
  | p :: l => by rw [List.flatMap_cons, List.length_append, prs_len l, List.length_append, b4_len, b4_len, List.length_cons]; omega
set_option maxHeartbeats 8000000
set_option maxHeartbeats 8000000
theorem TQ.short {u : UUnit} (h : TQ u) : (bytesP u).length ≤ 4000 := by
  obtain ⟨l, S, tc⟩ := h.c
  have n3 := tc.f.n3; have n5 := tc.f.n5; have hn := tc.n
  have h1 : (rowB textB u.names).length = 44 := by rw [h.n]; rfl
  have h2 := rowB_len (f := clB) (k := 80) (l := u.classes) (m := 5) (by omega) fun c hc => by
    have hb : c.binds.length ≤ 6 := by
      rcases tc.bind hc with e | ⟨S, e⟩
      · rw [e]; simp
      · rw [e]; exact selS_len S 6
    have hnm : c.name.length ≤ 5 := by
      obtain ⟨j, hj, rfl⟩ := List.mem_iff_getElem.1 hc
      have e := tc.e j (by omega)
      rw [clAt_nat hj] at e
      rw [e]
      dsimp only
      rcases (by omega : j = 0 ∨ j = 1 ∨ 2 ≤ j) with rfl | rfl | h2
      · rw [show ((0 : Nat) : Int) = 0 from rfl, tc.f.c0]; decide
      · rw [show ((1 : Nat) : Int) = 1 from rfl, tc.f.c1]; decide
      · rw [(tc.f.c j h2 (by omega)).1]; simp
    simp only [clB, textB, rowB, List.length_append, b4_len, prs_len]; omega
  have h3 := rowB_len (f := meB) (k := 200) (l := u.methods) (m := 9) (by have := h.m9; omega) fun m hm => by
    obtain ⟨j, hj, rfl⟩ := List.mem_iff_getElem.1 hm
    have h1 := h.ma j (by have := h.m9; omega)
    rw [mAt_nat hj] at h1
    have hl := h1.2.2.1.len
    obtain ⟨-, -, -, l', e, h4, -, -, h7⟩ := h1
    have hcd : u.methods[j].code.length ≤ 62 := by rw [h4, flatI_len, List.length_append, List.length_singleton]; omega
    simp only [meB, textB, rowB, List.length_append, b4_len, prs_len]; omega
  have h4 := rowB_len (f := obB) (k := 80) (l := u.objects) (m := 5) (by have := h.o5; omega) fun o ho => by
    have hf : o.fields.length ≤ 8 := by
      rcases (h.o o ho).1 with ⟨-, q⟩ | ⟨q1, q2, q3⟩
      · exact q
      · obtain ⟨j, hj⟩ : ∃ j : Nat, o.cls = (j : Int) := ⟨o.cls.toNat, by omega⟩
        have e := tc.e j (by omega)
        have e2 := (tc.f.c j (by omega) (by omega)).2.2.1
        rw [hj, e] at q3
        dsimp only at q3
        omega
    simp only [obB, rowB, List.length_append, b4_len, prs_len]; omega
  unfold bytesP unB markB
  simp only [List.length_append, b4_len, List.length_cons, List.length_nil]
  omega
set_option maxHeartbeats 8000000
theorem TQ.sm {u : UUnit} (h : TQ u) : SmU 64 u ∧ GeU u := by
  obtain ⟨l, S, tc⟩ := h.c
  have n3 := tc.f.n3; have n5 := tc.f.n5; have hn := tc.n
  have hm : ∀ m, m ∈ u.methods → ∃ a, methOk u.classes.length a m := fun m hm => by
    obtain ⟨j, hj, rfl⟩ := List.mem_iff_getElem.1 hm
    have := h.ma j (by have := h.m9; omega)
    rw [mAt_nat hj] at this
    exact ⟨_, this⟩
  refine ⟨⟨by rw [h.n]; decide, by omega, by rw [h.m9]; decide, by have := h.o5; omega, fun c hc => ?_, fun m hx => ?_, fun m hx => ?_, fun o ho => ?_⟩, ⟨by omega, by rw [h.m9]; decide, h.o1⟩⟩
  · rcases tc.bind hc with e | ⟨S, e⟩
    · rw [e]; decide
    · rw [e]; have := selS_len S 6; omega
  · obtain ⟨a, h1⟩ := hm m hx
    rw [h1.2.2.1.len]; decide
  · obtain ⟨a, -, -, -, l, e, h4, -, -, h7⟩ := hm m hx
    rw [h4, flatI_len, List.length_append, List.length_singleton]; omega
  · have hp := h.obj ho
    unfold objP at hp
    have hs2 := of_decide_eq_true (Bool.and_eq_true _ _ ▸ hp).1
    omega
set_option maxHeartbeats 8000000
end Go.Proofs.YtojeldemfccilaaGreatDoor.AA
