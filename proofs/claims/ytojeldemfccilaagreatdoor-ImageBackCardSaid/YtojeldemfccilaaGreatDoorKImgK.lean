/- The five laws. -/
import Derived.Test.YtojeldemfccilaaGreatDoorKImgJ
set_option linter.unusedSimpArgs false
set_option linter.unusedVariables false
namespace Go.Proofs.YtojeldemfccilaaGreatDoor.AA
open Go Go.RowKit
set_option maxRecDepth 100000
set_option maxHeartbeats 8000000
attribute [local irreducible] Tr.set
theorem tape_row {H : AHeap} {l : List Int} {v : AV} (h : SlE InE 1 H l [v]) : TapeR (H.newRow [v, .int .i64 0]) H.next := by
  obtain ⟨a, s0, cl, rfl, -⟩ := h.shape
  exact ⟨H, l, a, s0, cl, 0, Nat.le_refl _, Chg.newRow H _, h, Nat.zero_le _, Arr.newRow H _ _⟩
theorem c_unitOf {H : AHeap} {l : List Int} {v : AV} (h : SlE InE 1 H l [v]) : CW MN 9 [.ptr (some (H.next, 0))] (H.newRow [v, .int .i64 0]) fun w H' => ∃ u cu, w = .agg cu ∧ UnE H' u cu ∧ TQ u ∧ Sm H H' :=
  (c_Unit (tape_row h)).mono fun w H' ⟨u, cu, h1, h2, h3, h4, h5⟩ => ⟨u, cu, h1, h2, h3.tq, Sm.of (by rw [show (H.newRow [v, .int .i64 0]).next = H.next + 1 from rfl] at h4; omega) fun z hz => by
    rw [h5 z (by rw [show (H.newRow [v, .int .i64 0]).next = H.next + 1 from rfl]; omega) (by omega), (Chg.newRow H _).gt hz]⟩
theorem ByE.src {H : AHeap} {d : List Nat} {v : AV} (h : SlE ByE 1 H d [v]) : srcA H 1 false v = some (d.flatMap byC, d.length) := by
  obtain ⟨a, s0, cl, rfl, -⟩ := h.shape
  obtain ⟨cs, q1, q2, q3⟩ := SlE.row MonoE.enc h
  have hcs : cs = d.flatMap byC := by
    rw [bytes_map]
    refine List.ext_getElem (by rw [q2, List.length_map, Nat.mul_one]) fun j h1 h2 => ?_
    have hj : j < d.length := by rw [List.length_map] at h2; exact h2
    have e := (q3 j hj).1
    rw [Nat.mul_one] at e
    have e2 : ((cs.drop j).take 1)[0]? = some cs[j] := by
      rw [List.getElem?_take, if_pos (by omega), List.getElem?_drop, Nat.add_zero, List.getElem?_eq_getElem h1]
    rw [e] at e2
    rw [List.getElem_map]
    exact (Option.some.inj e2).symm
  rw [q1, hcs]
theorem bg_pre {H : AHeap} {d : List Nat} {x o n : Nat} {cl : Bool} (h : SlE ByE 1 H d [.slice (some (x, o)) 1 n cl]) (h0 : d.length ≠ 0) {k : Nat} (hk : k ≤ d.length) : BG 0 H (d.take k) (.slice (some (x, o)) 1 k true) := by
  have hl := ByE.lt h
  obtain ⟨cs, q1, q2, q3⟩ := SlE.row MonoE.enc h
  obtain ⟨a, s0, cl', e, k0, k1, kk⟩ := id h
  cases e
  obtain ⟨x', o', cs', e, hr, hlen, hj⟩ := kk h0
  cases e
  have hcs : cs' = d.flatMap byC := by
    have e := ByE.src h
    rw [srcA_slice hr hlen] at e
    injection e with e
    injection e
  subst hcs
  have hkl : (d.take k).length = k := by rw [List.length_take]; omega
  refine ⟨.inr ⟨x, o, true, by rw [hkl], Nat.zero_le _, by rw [byC_len, Nat.mul_one], ?_, fun h => by cases h⟩, fun x hx => hl x (List.mem_of_mem_take hx)⟩
  have := hr.pre k
  rw [bytes_map, ← List.map_take, ← bytes_map] at this
  exact this
theorem ByE.pt {H : AHeap} {d : List Nat} {v : AV} (h : SlE ByE 1 H d [v]) (h0 : d.length ≠ 0) : ∃ x o cl, v = .slice (some (x, o)) 1 d.length cl := by
  obtain ⟨a, s0, cl, e, k0, k1, k⟩ := h
  cases e
  obtain ⟨x, o, cs, rfl, hr, hl, hj⟩ := k h0
  rcases k0 with e | rfl
  · cases e
  · exact ⟨x, o, cl, rfl⟩
theorem ByE.bg {H : AHeap} {d : List Nat} {v : AV} (h : SlE ByE 1 H d [v]) (hu : ub v = none) (h0 : d.length ≠ 0) : BG 0 H d v := by
  obtain ⟨x, o, cl, rfl⟩ := ByE.pt h h0
  cases cl with
  | false => cases hu
  | true =>
    have := bg_pre h h0 (Nat.le_refl _)
    rwa [List.take_length] at this
theorem BS.all {v w : AV} {H H' : AHeap} (b : BS v w H H') (hu : ub v = none) : Sm H H' := Sm.of b.n fun x hx => b.k x hx (by rw [hu]; simp)
theorem bytesP_pf {u v : UUnit} (hu : FitU u) (hv : FitU v) {r s : List Nat} (e : bytesP u ++ r = bytesP v ++ s) : u = v ∧ r = s := by
  unfold bytesP unB at e
  simp only [List.append_assoc] at e
  have e := (List.append_inj e rfl).2
  obtain ⟨h1, e⟩ := pf_row pf_text _ _ _ _ ⟨by have := hu.n.1; omega, fun s hs => by have := hu.n.2 s hs; omega⟩ ⟨by have := hv.n.1; omega, fun s hs => by have := hv.n.2 s hs; omega⟩ e
  obtain ⟨h2, e⟩ := pf_row pf_cl _ _ _ _ ⟨by have := hu.c.1; omega, hu.c.2⟩ ⟨by have := hv.c.1; omega, hv.c.2⟩ e
  obtain ⟨h3, e⟩ := pf_row pf_me _ _ _ _ ⟨by have := hu.m.1; omega, hu.m.2⟩ ⟨by have := hv.m.1; omega, hv.m.2⟩ e
  obtain ⟨h4, e⟩ := pf_row pf_ob _ _ _ _ ⟨by have := hu.o.1; omega, hu.o.2⟩ ⟨by have := hv.o.1; omega, hv.o.2⟩ e
  obtain ⟨h5, e9⟩ := pf4 _ _ _ _ hu.main hv.main e
  obtain ⟨a1, a2, a3, a4, a5⟩ := u
  obtain ⟨b1, b2, b3, b4, b5⟩ := v
  simp only at h1 h2 h3 h4 h5
  exact ⟨by rw [h1, h2, h3, h4, h5], e9⟩
theorem bytesP_min (u : UUnit) : 24 ≤ (bytesP u).length := by
  simp only [bytesP, unB, rowB, List.length_append, b4_len]
  have h3 : markB.length = 4 := rfl
  omega
theorem read_cut {u : UUnit} (h : unitP u = 0) {k : Nat} (hk : k < (bytesP u).length) : ReadP ((bytesP u).take k) zU 12 := .inr (.inr ⟨by have := (fitU_of h).len; rw [List.length_take]; omega, fun v hv e => by
  have e2 : bytesP u ++ [] = bytesP v ++ (bytesP u).drop k := by rw [List.append_nil, ← e, List.take_append_drop]
  have := (bytesP_pf (fitU_of h) (fitU_of hv) e2).2
  have := congrArg List.length this
  rw [List.length_drop] at this
  simp at this
  omega, rfl, rfl⟩)
theorem read_more {u : UUnit} (h : unitP u = 0) (m : Nat) : ReadP (bytesP u ++ [m]) zU 12 := by
  refine .inr (.inr ⟨?_, fun v hv e => ?_, rfl, rfl⟩)
  · have := (fitU_of h).len; rw [List.length_append]; simp; omega
  · have e2 : bytesP u ++ [m] = bytesP v ++ [] := by rw [List.append_nil, e]
    have := (bytesP_pf (fitU_of h) (fitU_of hv) e2).2
    cases this
attribute [local go_sem ↓] exA_lookup stepA_lookup exA_mapUpd WP_seq WP_skip WP_region WP_dregion WP_cond WP_block WP_exit WP_ret OW_nil OW_cons DW_nil DW_cons XW_call reduceIte OW_guard DW_guard
attribute [local go_sem] LkA_some EvA_some updM_some at0 at1 XW exA KO_eq OptK_some EvK_some GW2_true GW2_false KS_normal KS_ret KS_exit KB_normal KB_ret KB_exit CP2_bool RP_ret putA_some putA_none ev_t ev_c evs evo wantA initA resA Tr.get_set vl chkOk cond_true cond_false Nat.add_zero Nat.mul_one Nat.one_mul Nat.zero_add Nat.zero_mul aggOf pInt binA unA intA beq_true beq_false Bool.not_true Bool.not_false Bool.not_eq_true and_self and_true true_and reduceIte Nat.reduceEqDiff Nat.succ_ne_self Nat.reduceAdd Nat.reduceMul Nat.reduceSub Nat.reduceBEq Nat.reduceLT Nat.reduceLeDiff Int.cast_ofNat_Int Int.reduceToNat Int.reduceLT Int.reduceLE Int.reduceGE Int.reduceGT Int.reduceEq Int.reduceNe Int.reduceAdd Int.reduceSub Int.reduceNeg decide_true decide_false Int.toNat_natCast reduceCtorEq List.nil_append List.cons_append AV.boxy AV.cells List.length_cons List.length_nil Nat.beq_refl AOp.cl KDW_0 KDW_1 KDW_2 OWskip_eq DWskip_eq fillA setAt DChk DAt stepA ble_dec beq_dec Bool.and_self Bool.and_true Bool.true_and Bool.and_false Bool.false_and List.take_succ_cons List.take_zero List.drop_succ_cons List.drop_zero List.take_nil List.drop_nil List.append_nil eqAV eqAVL BEq.rfl sameS Option.map Option.isNone wrap64 gt_iff_lt ge_iff_le Int.lt_irrefl Int.le_refl
set_option maxHeartbeats 8000000
set_option maxHeartbeats 8000000
theorem SlG_of {s : Nat} {K : AHeap} {v : AV} {lo hi mx : Option AV} {w : AV} (h : sliA s v lo hi mx = some w) : SlG s K (some v) (some lo) (some hi) (some mx) = some (w, K) := by
  rw [SlG_some, h]
theorem c_ImageBack {H : AHeap} {l : List Int} {v : AV} (h : SlE InE 1 H l [v]) (cut : Int) {m : Nat} (hm : m < 256) : CW MN 5 [v, .int .i64 cut, .int .u8 (m : Int)] H fun w H' => w = .bool true ∧ Sm H H' := by
  refine CW_of (fn := af5) rfl ?_
  dsimp only [af5, qm, q, qG, qn, qi, qb, qB, qk, qc, qo, qg, qv, qr]
  obtain ⟨la, ls, lk, rfl, -⟩ := h.shape
  simp -implicitDefEqProofs only [eqA, eqD, go_sem]
  refine CW.mono (c_unitOf h) ?_
  rintro _ H1 ⟨u, cu, rfl, hu, tq, s1⟩
  have hr := tq.right
  obtain ⟨a1, z1, c1, a2, z2, c2, a3, z3, c3, a4, z4, c4, rfl⟩ := hu.sh
  obtain ⟨H2, e2, n2, s2, r2⟩ := store_new H1 zA5 [.slice a1 z1 u.names.length c1, .slice a2 z2 u.classes.length c2, .slice a3 z3 u.methods.length c3, .slice a4 z4 u.objects.length c4, .int .i64 u.main] rfl
  have hu2 := MonoE.un _ _ _ _ hu s2
  have l2 := r2.load (n := 5) rfl
  simp -implicitDefEqProofs only [e2, l2, eqA, eqD, go_sem]
  refine CW.mono (c_iBytes hu2) ?_
  rintro w H3 ⟨s3, hb⟩
  obtain ⟨ba, rfl, sa, ua⟩ := hb.ok hr
  have hl24 := bytesP_min u
  have hl50 := (fitU_of hr).len
  obtain ⟨xa, oa, ca, rfl⟩ := ByE.pt sa (by omega)
  simp -implicitDefEqProofs only [eqA, eqD, go_sem]
  refine CW.mono (c_Read sa) ?_
  rintro w H4 ⟨s4, cs, e', u', rfl, hu', hp⟩
  obtain ⟨rfl, rfl⟩ := (ReadP.of hr).uniq hp
  obtain ⟨b1, y1, d1, b2, y2, d2, b3, y3, d3, b4, y4, d4, rfl⟩ := hu'.sh
  obtain ⟨H5, e5, n5, s5, r5⟩ := store_new H4 zA5 [.slice b1 y1 u.names.length d1, .slice b2 y2 u.classes.length d2, .slice b3 y3 u.methods.length d3, .slice b4 y4 u.objects.length d4, .int .i64 u.main] rfl
  have l5 := r5.load (n := 5) rfl
  have hu5 := MonoE.un _ _ _ _ hu' s5
  simp -implicitDefEqProofs only [e5, l5, eqA, eqD, go_sem]
  refine CW.mono (c_iBytes hu5) ?_
  rintro w H6 ⟨s6, hb6⟩
  obtain ⟨bc, rfl, sc, -⟩ := hb6.ok hr
  have s35 := s4.trans s5
  have s36 := s35.trans s6
  have sa6 := MonoE.enc.sl _ _ _ _ sa s36
  have t1 := ByE.str sa6
  have t2 := ByE.str sc
  obtain ⟨ae, ze, ce, rfl⟩ := SlE.shape3 sc
  have s26 := s3.trans s36
  have l26 := (s26.ld r2.1).trans l2
  have l56 := (s6.ld r5.1).trans l5
  have z0 : ((0 : Int) == 0) = true := rfl
  have zn : ((0 : Int) != 0) = false := rfl
  have hlt5 : ¬ ((bytesP u).length : Int) < 5 := by omega
  have hw1 : IntKind.i64.wrap (((bytesP u).length : Int) - 1) = ((bytesP u).length : Int) - 1 := wrap64 (by omega) (by omega)
  simp -implicitDefEqProofs only [zn, t1, t2, l26, l56, eqStr, Bool.false_eq_true, eqA, eqD, go_sem]
  refine CW.mono (c_rSame (MonoE.un _ _ _ _ hu2 s26) (MonoE.un _ _ _ _ hu5 s6)) ?_
  rintro w H7 ⟨rfl, s7⟩
  have sa7 := MonoE.enc.sl _ _ _ _ sa6 s7
  have t17 := ByE.str sa7
  have t27 := ByE.str (MonoE.enc.sl _ _ _ _ sc s7)
  simp -implicitDefEqProofs only [zn, t1, t2, t17, t27, l26, l56, hlt5, BEq.rfl, bne_self_eq_false, decide_true, Bool.false_eq_true, hw1, eqA, eqD, go_sem]
  refine CW.mono (c_withinN cut 0 _ H7 (by omega) (by omega) (by omega)) ?_
  rintro _ _ ⟨⟨k, rfl, hk0, hk1⟩, rfl⟩
  obtain ⟨k, rfl⟩ : ∃ j : Nat, k = (j : Int) := ⟨k.toNat, by omega⟩
  obtain ⟨wp, p1, q1⟩ := sa7.preG (k := k) (by omega)
  simp -implicitDefEqProofs only [↓exA_slG, SlG_of p1, hw1, eqA, eqD, go_sem]
  refine CW.mono (c_Read q1) ?_
  rintro w H8 ⟨s8, cs8, e8, u8, rfl, hu8, hp8⟩
  obtain ⟨rfl, rfl⟩ := (read_cut hr (by omega)).uniq hp8
  obtain ⟨f1, g1, k1, f2, g2, k2, f3, g3, k3, f4, g4, k4, rfl⟩ := hu8.sh
  obtain ⟨H9, e9, n9, s9, r9⟩ := store_new H8 zA5 [.slice f1 g1 zU.names.length k1, .slice f2 g2 zU.classes.length k2, .slice f3 g3 zU.methods.length k3, .slice f4 g4 zU.objects.length k4, .int .i64 zU.main] rfl
  have s79 := s8.trans s9
  have sa9 := MonoE.enc.sl _ _ _ _ sa7 s79
  obtain ⟨wq, K, eK, bg, bs⟩ := (ByE.bg sa9 ua (by omega)).push (d := [m]) (Nat.zero_le _) (by simpa using hm) (by simp; omega)
  have sK := bs.all ua
  have slK := bg.slE (by simp; unfold maxLen; omega)
  have eK' : appendF (H9.newRow [.int .u8 (m : Int)]) 1 1 false (.slice (some (xa, oa)) 1 (bytesP u).length ca) (.slice (some (H9.next, 0)) 1 1 true) = some (wq, K) := eK
  simp -implicitDefEqProofs only [e9, eK', eqA, eqD, go_sem]
  refine CW.mono (c_Read slK) ?_
  rintro w H10 ⟨s10, cs10, e10, u10, rfl, hu10, hp10⟩
  obtain ⟨rfl, rfl⟩ := (read_more hr m).uniq hp10
  obtain ⟨i1, j1, o1, i2, j2, o2, i3, j3, o3, i4, j4, o4, rfl⟩ := hu10.sh
  obtain ⟨H11, e11, n11, s11, r11⟩ := store_new H10 zA5 [.slice i1 j1 zU.names.length o1, .slice i2 j2 zU.classes.length o2, .slice i3 j3 zU.methods.length o3, .slice i4 j4 zU.objects.length o4, .int .i64 zU.main] rfl
  simp -implicitDefEqProofs only [e11, BEq.rfl, eqA, eqD, go_sem]
  refine CW.mono (c_known16 H11) ?_
  rintro w H12 ⟨rfl, s12⟩
  simp -implicitDefEqProofs only [BEq.rfl, eqA, eqD, go_sem]
  exact ((((s1.trans s2).trans s26).trans s7).trans s79).trans (((sK.trans s10).trans s11).trans s12)
set_option maxHeartbeats 8000000
def moreU (u : UUnit) (k : Nat) : UUnit := ⟨u.names, u.classes, u.methods, u.objects ++ [⟨1, List.replicate k (0, 0)⟩], u.main⟩
theorem TQ.more {u : UUnit} (h : TQ u) {k : Nat} (hk : k ≤ 62) : unitP (moreU u k) = 0 := by
  obtain ⟨l, S, tc⟩ := h.c
  have n3 := tc.f.n3; have hn := tc.n
  have hl : (moreU u k).objects.length = u.objects.length + 1 := by simp [moreU]
  have e1 : sizesP (moreU u k) = true := decide_eq_true ⟨by show u.names.length ≤ 48; rw [h.n]; decide, by show 1 ≤ u.methods.length; rw [h.m9]; decide, by show u.methods.length ≤ 32; rw [h.m9]; decide, by omega, by have := h.o5; omega⟩
  have e2 : namesP (moreU u k).names = true := by show namesP u.names = true; rw [h.n]; exact names_ok
  have e3 : shapeP (moreU u k).classes (moreU u k).names.length (moreU u k).methods.length = 0 := by show shapeP u.classes u.names.length u.methods.length = 0; rw [h.n, h.m9]; exact tc.shape
  have e5 : methodsP (moreU u k) = 0 := h.meths
  have e6 : mainP (moreU u k) = true := by
    show (decide (0 ≤ u.main ∧ u.main < u.methods.length) && decide ((mAt u u.main.toNat).args = 0)) = true
    rw [h.m, h.m9, show (6 : Int).toNat = 6 from rfl, h.argsQ (by omega)]; rfl
  have e4 : (moreU u k).objects.all (objP (moreU u k)) = true := List.all_eq_true.2 fun o ho => by
    rcases List.mem_append.1 (show o ∈ u.objects ++ [⟨1, List.replicate k (0, 0)⟩] from ho) with ho | ho
    · have hp := h.obj ho
      unfold objP at hp ⊢
      have hp' := Bool.and_eq_true _ _ ▸ hp
      have h1 : decide (1 ≤ o.cls ∧ o.cls < (moreU u k).classes.length ∧ o.fields.length ≤ 62 ∧ (1 < o.cls → (o.fields.length : Int) = (clAt (moreU u k).classes o.cls).fields)) = true := hp'.1
      rw [h1, Bool.true_and]
      refine List.all_eq_true.2 fun v hv => ?_
      have hv' := List.all_eq_true.1 hp'.2 v hv
      unfold valP at hv' ⊢
      by_cases q1 : v.1 = 0 ∨ v.1 = 1 ∨ v.1 = 2
      · rw [if_pos q1] at hv' ⊢; exact hv'
      rw [if_neg q1] at hv' ⊢
      by_cases q2 : v.1 = 3
      · rw [if_pos q2] at hv' ⊢; exact hv'
      rw [if_neg q2] at hv' ⊢
      by_cases q3 : v.1 = 4
      · rw [if_pos q3] at hv' ⊢
        have := of_decide_eq_true hv'
        exact decide_eq_true (by omega)
      rw [if_neg q3] at hv'
      cases hv'
    · obtain rfl : o = ⟨1, List.replicate k (0, 0)⟩ := by simpa using ho
      unfold objP
      rw [decide_eq_true, Bool.true_and]
      · refine List.all_eq_true.2 fun v hv => ?_
        rw [(List.mem_replicate.1 hv).2]; rfl
      · refine ⟨by dsimp only; omega, ?_, by rw [List.length_replicate]; exact hk, fun h => absurd h (by dsimp only; omega)⟩
        show (1 : Int) < (u.classes.length : Int)
        omega
  unfold unitP
  rw [e1, e2, e3, e4, e5, e6]
  rfl
def anoS : List Nat := [97, 110, 111, 116, 104, 101, 114]
def nameU (u : UUnit) : UUnit := ⟨u.names ++ [anoS], u.classes, u.methods, u.objects, u.main⟩
theorem nms_ok2 : namesP (nmsU ++ [anoS]) = true := by decide +kernel
theorem nms_args2 : ∀ j, j < 6 → argsP ((nmsU ++ [anoS]).getD j []) = argsK j := by decide +kernel
theorem bindsP_up {l : List Pr2} {n n' m : Int} (hn : n ≤ n') (h : bindsP l n m = true) : bindsP l n' m = true := by
  unfold bindsP at h ⊢
  rw [Bool.and_eq_true] at h ⊢
  refine ⟨List.all_eq_true.2 fun i hi => ?_, h.2⟩
  have := List.all_eq_true.1 h.1 i hi
  unfold bindAt okB at this ⊢
  simp only [Bool.and_eq_true, decide_eq_true_eq] at this ⊢
  exact ⟨⟨⟨⟨this.1.1.1.1, by have := this.1.1.1.2; omega⟩, this.1.1.2⟩, this.1.2⟩, this.2⟩
theorem classAt_up {l : List UClass} {n n' m : Int} {i : Nat} (hn : n ≤ n') (h : classAt l n m i = 0) : classAt l n' m i = 0 := by
  unfold classAt at h ⊢
  split at h
  · cases h
  split at h
  · cases h
  split at h
  · cases h
  rename_i h1 h2 h3
  rw [if_neg h1, if_neg h2, if_neg]
  rw [bindsP_up hn (by simpa using h3)]
  simp
theorem shapeP_up {l : List UClass} {n n' m : Int} (hn : n ≤ n') (h : shapeP l n m = 0) : shapeP l n' m = 0 := by
  unfold shapeP at h ⊢
  split at h
  · cases h
  split at h
  · cases h
  rename_i h1 h2
  rw [if_neg h1, if_neg h2]
  exact firstBad_no fun j hj => classAt_up hn (firstBad_zero h j hj)
theorem methodP_name {u : UUnit} {m : UMethod} (h : methodP u m = 0) : methodP (nameU u) m = 0 := by
  unfold methodP at h ⊢
  split at h
  · cases h
  split at h
  rotate_left
  · cases h
  rename_i h1 h2
  rw [if_neg h1, if_pos]
  simp only [Bool.and_eq_true] at h2 ⊢
  refine ⟨⟨h2.1.1, List.all_eq_true.2 fun v hv => ?_⟩, h2.2⟩
  have h3 := List.all_eq_true.1 h2.1.2 v hv
  unfold litP at h3 ⊢
  by_cases q1 : v.1 = 3
  · rw [if_pos q1] at h3 ⊢; exact h3
  rw [if_neg q1] at h3 ⊢
  by_cases q2 : v.1 = 5
  · rw [if_pos q2] at h3 ⊢
    have := of_decide_eq_true h3
    have hl : (nameU u).names.length = u.names.length + 1 := by simp [nameU]
    exact decide_eq_true (by omega)
  rw [if_neg q2] at h3 ⊢
  exact h3
theorem TQ.name {u : UUnit} (h : TQ u) : unitP (nameU u) = 0 := by
  obtain ⟨l, S, tc⟩ := h.c
  have hl : (nameU u).names.length = 7 := by show (u.names ++ [anoS]).length = 7; rw [h.n]; rfl
  have e1 : sizesP (nameU u) = true := decide_eq_true ⟨by omega, by show 1 ≤ u.methods.length; rw [h.m9]; decide, by show u.methods.length ≤ 32; rw [h.m9]; decide, h.o1, by have := h.o5; show u.objects.length ≤ 40; omega⟩
  have e2 : namesP (nameU u).names = true := by show namesP (u.names ++ [anoS]) = true; rw [h.n]; exact nms_ok2
  have e3 : shapeP (nameU u).classes (nameU u).names.length (nameU u).methods.length = 0 := by
    rw [hl]
    show shapeP u.classes _ u.methods.length = 0
    rw [h.m9]
    exact shapeP_up (by decide) tc.shape
  have hm := h.meths
  have e4 : methodsP (nameU u) = 0 := by
    unfold methodsP at hm
    split at hm
    · cases hm
    rename_i k1
    split at hm
    · rename_i k2; exact absurd hm k2
    rename_i k2
    have q2 : firstBad u.methods.length (badMeth u) = 0 := Classical.byContradiction k2
    have q3 : firstBad (nameU u).methods.length (badMeth (nameU u)) = 0 := firstBad_no fun j hj => methodP_name (firstBad_zero q2 j hj)
    have q4 : ((nameU u).classes.any fun c => c.binds.any (badBind (nameU u))) = false := by
      refine List.any_eq_false.2 fun c hc => ?_
      have : c.binds.any (badBind (nameU u)) = false := by
        rcases tc.bind hc with e | ⟨S, e⟩
        · rw [e]; rfl
        · rw [e]
          refine List.any_eq_false.2 fun b hb => ?_
          obtain ⟨j, hj, rfl⟩ := selS_mem hb
          have e5 : (nameU u).names = nmsU ++ [anoS] := by rw [← h.n]; rfl
          have e6 : mAt (nameU u) j = mAt u j := rfl
          simp only [badBind, Int.toNat_natCast]
          rw [e5, nms_args2 j hj, e6, h.argsQ (by omega), if_neg (by omega)]
          simp
      simp [this]
    unfold methodsP
    rw [if_neg (show ¬ (nameU u).classes.any badDict = true from k1), q3, q4]
    rfl
  have e5 : (nameU u).objects.all (objP (nameU u)) = true := List.all_eq_true.2 fun o ho => h.obj ho
  have e6 : mainP (nameU u) = true := by
    show (decide (0 ≤ u.main ∧ u.main < u.methods.length) && decide ((mAt u u.main.toNat).args = 0)) = true
    rw [h.m, h.m9, show (6 : Int).toNat = 6 from rfl, h.argsQ (by omega)]; rfl
  unfold unitP
  rw [e1, e2, e3, e4, e5, e6]
  rfl
theorem prs_len : ∀ l : List Pr2, (l.flatMap prB).length = 8 * l.length
  | [] => rfl
  | p :: l => by rw [List.flatMap_cons, List.length_append, prs_len l, List.length_append, b4_len, b4_len, List.length_cons]; omega
set_option maxHeartbeats 8000000
set_option maxHeartbeats 8000000
theorem TQ.short {u : UUnit} (h : TQ u) : (bytesP u).length ≤ 4000 := by
  obtain ⟨l, S, tc⟩ := h.c
  have n3 := tc.f.n3; have n5 := tc.f.n5; have hn := tc.n
  have h1 : (rowB textB u.names).length = 44 := by rw [h.n]; rfl
  have h2 := rowB_len (f := clB) (k := 80) (l := u.classes) (m := 5) (by omega) fun c hc => by
    have hb : c.binds.length ≤ 6 := by
      rcases tc.bind hc with e | ⟨S, e⟩
      · rw [e]; simp
      · rw [e]; exact selS_len S 6
    have hnm : c.name.length ≤ 5 := by
      obtain ⟨j, hj, rfl⟩ := List.mem_iff_getElem.1 hc
      have e := tc.e j (by omega)
      rw [clAt_nat hj] at e
      rw [e]
      dsimp only
      rcases (by omega : j = 0 ∨ j = 1 ∨ 2 ≤ j) with rfl | rfl | h2
      · rw [show ((0 : Nat) : Int) = 0 from rfl, tc.f.c0]; decide
      · rw [show ((1 : Nat) : Int) = 1 from rfl, tc.f.c1]; decide
      · rw [(tc.f.c j h2 (by omega)).1]; simp
    simp only [clB, textB, rowB, List.length_append, b4_len, prs_len]; omega
  have h3 := rowB_len (f := meB) (k := 200) (l := u.methods) (m := 9) (by have := h.m9; omega) fun m hm => by
    obtain ⟨j, hj, rfl⟩ := List.mem_iff_getElem.1 hm
    have h1 := h.ma j (by have := h.m9; omega)
    rw [mAt_nat hj] at h1
    have hl := h1.2.2.1.len
    obtain ⟨-, -, -, l', e, h4, -, -, h7⟩ := h1
    have hcd : u.methods[j].code.length ≤ 62 := by rw [h4, flatI_len, List.length_append, List.length_singleton]; omega
    simp only [meB, textB, rowB, List.length_append, b4_len, prs_len]; omega
  have h4 := rowB_len (f := obB) (k := 80) (l := u.objects) (m := 5) (by have := h.o5; omega) fun o ho => by
    have hf : o.fields.length ≤ 8 := by
      rcases (h.o o ho).1 with ⟨-, q⟩ | ⟨q1, q2, q3⟩
      · exact q
      · obtain ⟨j, hj⟩ : ∃ j : Nat, o.cls = (j : Int) := ⟨o.cls.toNat, by omega⟩
        have e := tc.e j (by omega)
        have e2 := (tc.f.c j (by omega) (by omega)).2.2.1
        rw [hj, e] at q3
        dsimp only at q3
        omega
    simp only [obB, rowB, List.length_append, b4_len, prs_len]; omega
  unfold bytesP unB markB
  simp only [List.length_append, b4_len, List.length_cons, List.length_nil]
  omega
set_option maxHeartbeats 8000000
theorem TQ.sm {u : UUnit} (h : TQ u) : SmU 64 u ∧ GeU u := by
  obtain ⟨l, S, tc⟩ := h.c
  have n3 := tc.f.n3; have n5 := tc.f.n5; have hn := tc.n
  have hm : ∀ m, m ∈ u.methods → ∃ a, methOk u.classes.length a m := fun m hm => by
    obtain ⟨j, hj, rfl⟩ := List.mem_iff_getElem.1 hm
    have := h.ma j (by have := h.m9; omega)
    rw [mAt_nat hj] at this
    exact ⟨_, this⟩
  refine ⟨⟨by rw [h.n]; decide, by omega, by rw [h.m9]; decide, by have := h.o5; omega, fun c hc => ?_, fun m hx => ?_, fun m hx => ?_, fun o ho => ?_⟩, ⟨by omega, by rw [h.m9]; decide, h.o1⟩⟩
  · rcases tc.bind hc with e | ⟨S, e⟩
    · rw [e]; decide
    · rw [e]; have := selS_len S 6; omega
  · obtain ⟨a, h1⟩ := hm m hx
    rw [h1.2.2.1.len]; decide
  · obtain ⟨a, -, -, -, l, e, h4, -, -, h7⟩ := hm m hx
    rw [h4, flatI_len, List.length_append, List.length_singleton]; omega
  · have hp := h.obj ho
    unfold objP at hp
    have hs2 := of_decide_eq_true (Bool.and_eq_true _ _ ▸ hp).1
    omega
set_option maxHeartbeats 8000000
end Go.Proofs.YtojeldemfccilaaGreatDoor.AA
