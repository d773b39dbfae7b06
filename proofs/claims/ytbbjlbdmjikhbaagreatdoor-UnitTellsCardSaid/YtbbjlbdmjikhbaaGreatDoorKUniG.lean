/- The odd unit, few, known. -/
import Derived.Test.YtbbjlbdmjikhbaaGreatDoorKUniF
set_option linter.unusedSimpArgs false
set_option linter.unusedVariables false
namespace Go.Proofs.YtbbjlbdmjikhbaaGreatDoor.AA
open Go Go.RowKit
attribute [local go_sem ↓] WP_seq WP_skip WP_region WP_dregion WP_cond WP_block WP_exit WP_ret OW_nil OW_cons DW_nil DW_cons XW_call reduceIte OW_guard DW_guard
attribute [local go_sem] XW exA KO_eq OptK_some EvK_some GW2_true GW2_false KS_normal KS_ret KS_exit KB_normal KB_ret KB_exit CP2_bool RP_ret putA_some putA_none ev_t ev_c evs evo wantA initA resA Tr.get_set vl chkOk cond_true cond_false Nat.add_zero Nat.mul_one Nat.one_mul Nat.zero_add Nat.zero_mul aggOf pInt binA unA intA beq_true beq_false Bool.not_true Bool.not_false Bool.not_eq_true and_self and_true true_and reduceIte Nat.reduceEqDiff Nat.succ_ne_self Nat.reduceAdd Nat.reduceMul Nat.reduceSub Nat.reduceBEq Nat.reduceLT Nat.reduceLeDiff Int.cast_ofNat_Int Int.reduceToNat Int.reduceLT Int.reduceLE Int.reduceGE Int.reduceGT Int.reduceEq Int.reduceNe Int.reduceAdd Int.reduceSub Int.reduceNeg decide_true decide_false Int.toNat_natCast reduceCtorEq List.nil_append List.cons_append AV.boxy AV.cells List.length_cons List.length_nil Nat.beq_refl AOp.cl KDW_0 KDW_1 KDW_2 OWskip_eq DWskip_eq fillA setAt DChk DAt stepA ble_dec beq_dec Bool.and_self Bool.and_true Bool.true_and Bool.and_false Bool.false_and List.take_succ_cons List.take_zero List.drop_succ_cons List.drop_zero List.take_nil List.drop_nil List.append_nil eqAV eqAVL BEq.rfl sameS Option.map Option.isNone wrap64 gt_iff_lt ge_iff_le Int.lt_irrefl Int.le_refl
set_option maxRecDepth 100000
set_option maxHeartbeats 4000000
attribute [local irreducible] Tr.set
def OddR (N : Nat) (H : AHeap) (w : AV) (H' : AHeap) : Prop := ∃ u' cu', w = .agg cu' ∧ UnE H' u' cu' ∧ SmU (N + 2) u' ∧ GeU u' ∧ Sm H H'
theorem c_oddUnit {H : AHeap} {u : UUnit} {cu : List AV} (hu : UnE H u cu) {N : Nat} (hs : SmU N u) (hg : GeU u) (hN : 41 ≤ N) (hN2 : N ≤ 10000) (what at' n : Int) (ha : I64 at') (hn : I64 n) : CW MN 13 [.agg cu, .int .i64 what, .int .i64 at', .int .i64 n] H fun w H' => OddR N H w H' := by
 refine CW_of (fn := af13) rfl ?_
 dsimp only [af13, qm, q, qG, qn, qi, qb, qB, qk, qc, qo, qg, qv, qr]
 obtain ⟨v1, v2, v3, v4, rfl, hmn, q1, q2, q3, q4⟩ := hu
 have s1 := Chg.newRow H [v1, v2, v3, v4, .int .i64 u.main]
 have b1 := Arr.newRow H [v1, v2, v3, v4, .int .i64 u.main] fun _ => False
 have hn1 : (H.newRow [v1, v2, v3, v4, .int .i64 u.main]).next = H.next + 1 := rfl
 simp only [iv]
 generalize eH1 : H.newRow [v1, v2, v3, v4, .int .i64 u.main] = H1 at s1 b1 hn1
 have s2 := Chg.newRow H1 [.slice none 1 0 true, .slice none 1 0 true, .slice none 1 0 true, .slice none 1 0 true, .int .i64 0]
 have r2 := Arr.newRow H1 [.slice none 1 0 true, .slice none 1 0 true, .slice none 1 0 true, .slice none 1 0 true, .int .i64 0] fun _ => False
 have hn2 : (H1.newRow [.slice none 1 0 true, .slice none 1 0 true, .slice none 1 0 true, .slice none 1 0 true, .int .i64 0]).next = H1.next + 1 := rfl
 generalize eH2 : H1.newRow [.slice none 1 0 true, .slice none 1 0 true, .slice none 1 0 true, .slice none 1 0 true, .int .i64 0] = H2 at s2 r2 hn2
 have b2 := b1.sm s2
 have s12 := s1.trans s2
 have hN1 := hs.n; have hN2' := hs.c; have hN3 := hs.m; have hN4 := hs.o
 obtain ⟨x1, c1, k1, Ka, Kb, ld1, ap1, st1, b3, ro1, lx1, nn1, kp1⟩ := copy_step (bytes := 16) (i := 0) MonoE.enc q1 s12 b2 rfl (by omega) (by omega)
 have sb : Sm H Kb := Sm.of (by omega) fun z hz => by rw [kp1 z (by omega) (by omega), s12.gt hz]
 obtain ⟨x2, c2, k2, Kc, Kd, ld2, ap2, st2, b4, ro2, lx2, nn2, kp2⟩ := copy_step (bytes := 56) (i := 1) MonoE.cl q2 sb b3 rfl (by omega) (by omega)
 have sd : Sm H Kd := Sm.of (by omega) fun z hz => by rw [kp2 z (by omega) (by omega), sb.gt hz]
 obtain ⟨x3, c3, k3, Ke, Kf, ld3, ap3, st3, b5, ro3, lx3, nn3, kp3⟩ := copy_step (bytes := 64) (i := 2) MonoE.me q3 sd b4 rfl (by omega) (by omega)
 have sf : Sm H Kf := Sm.of (by omega) fun z hz => by rw [kp3 z (by omega) (by omega), sd.gt hz]
 obtain ⟨x4, c4, k4, Kg, Kh, ld4, ap4, st4, b6, ro4, lx4, nn4, kp4⟩ := copy_step (bytes := 32) (i := 3) MonoE.ob q4 sf b5 rfl (by omega) (by omega)
 have sh : Sm H Kh := Sm.of (by omega) fun z hz => by rw [kp4 z (by omega) (by omega), sf.gt hz]
 have ou : OU H u Kh u.names.length u.classes.length u.methods.length u.objects.length x1 x2 x3 x4 c1 c2 c3 c4 k1 k2 k3 k4 := by
  have y1 := ro1.a.1; have y2 := ro2.a.1; have y3 := ro3.a.1; have y4 := ro4.a.1
  refine ⟨sh, b6, ?_, ?_, ?_, ?_, ro4, rfl, rfl, rfl, rfl, by omega, by omega, by omega, by omega, hmn⟩
  ·rw [show H.next + 1 = H1.next by omega]
   exact r2.keep (by omega) (by rw [kp4 _ (by omega) (by omega), kp3 _ (by omega) (by omega), kp2 _ (by omega) (by omega), kp1 _ (by omega) (by omega)])
  ·exact ro1.keep (by omega) (by rw [kp4 _ (by omega) (by omega), kp3 _ (by omega) (by omega), kp2 _ (by omega) (by omega)])
  ·exact ro2.keep (by omega) (by rw [kp4 _ (by omega) (by omega), kp3 _ (by omega) (by omega)])
  ·exact ro3.keep (by omega) (by rw [kp4 _ (by omega) (by omega)])
 obtain ⟨z1, z2, z3, rfl, -⟩ := q1.shape
 obtain ⟨z1', z2', z3', rfl, -⟩ := q2.shape
 obtain ⟨z4, z5, z6, rfl, -⟩ := q3.shape
 obtain ⟨z4', z5', z6', rfl, -⟩ := q4.shape
 simp -implicitDefEqProofs only [eH1, eH2, hn1, ld1, ap1, st1, ld2, ap2, st2, ld3, ap3, st3, ld4, ap4, st4, go_sem]
 clear eH1 eH2 ld1 ap1 st1 ld2 ap2 st2 ld3 ap3 st3 ld4 ap4 st4 kp1 kp2 kp3 kp4 ro1 ro2 ro3 ro4 b3 b4 b5 b6 b1 b2 r2 s1 s2 s12 sb sd sf sh
 obtain ⟨g1, g2, g3⟩ := hg
 have L := ou.box.rd
 have d0 : loadA Kh H.next 0 1 = some [.slice (some (x1, 0)) 1 u.names.length c1] := by have := L.one (j := 0) rfl; rwa [Nat.zero_add] at this
 have d1 : loadA Kh H.next 1 1 = some [.slice (some (x2, 0)) 4 u.classes.length c2] := by have := L.one (j := 1) rfl; rwa [Nat.zero_add] at this
 have d2 : loadA Kh H.next 2 1 = some [.slice (some (x3, 0)) 4 u.methods.length c3] := by have := L.one (j := 2) rfl; rwa [Nat.zero_add] at this
 have d3 : loadA Kh H.next 3 1 = some [.slice (some (x4, 0)) 2 u.objects.length c4] := by have := L.one (j := 3) rfl; rwa [Nat.zero_add] at this
 have wm : IntKind.i64.wrap ((u.methods.length : Int) - 1) = (u.methods.length : Int) - 1 := wrap64 (by omega) (by omega)
 have wo : IntKind.i64.wrap ((u.objects.length : Int) - 1) = (u.objects.length : Int) - 1 := wrap64 (by omega) (by omega)
 have wc : IntKind.i64.wrap ((u.classes.length : Int) - 1) = (u.classes.length : Int) - 1 := wrap64 (by omega) (by omega)
 simp -implicitDefEqProofs only [d2, wm, go_sem]
 refine CW.mono (c_withinN at' 0 _ Kh (by omega) (by omega) (by omega)) ?_
 rintro _ Ki ⟨⟨im, rfl, m0, m1⟩, rfl⟩
 have m1' : im < (u.methods.length : Int) := by omega
 simp -implicitDefEqProofs only [d2, wm, m0, m1', d3, wo, go_sem]
 refine CW.mono (c_withinN at' 0 _ Ki (by omega) (by omega) (by omega)) ?_
 rintro _ Kj ⟨⟨io, rfl, o0, o1⟩, rfl⟩
 have o1' : io < (u.objects.length : Int) := by omega
 simp -implicitDefEqProofs only [d3, wo, o0, o1', d1, wc, go_sem]
 refine CW.mono (c_withinN at' 0 _ Kj (by omega) (by omega) (by omega)) ?_
 rintro _ Kk ⟨⟨ic, rfl, cc0, cc1⟩, rfl⟩
 have cc1' : ic < (u.classes.length : Int) := by omega
 simp -implicitDefEqProofs only [d1, wc, cc0, cc1', go_sem]
 refine CW.mono (c_withinN what 0 13 Kk (by omega) (by omega) (by omega)) ?_
 rintro _ K ⟨⟨wh, rfl, wh0, wh1⟩, rfl⟩
 obtain ⟨jm, rfl⟩ : ∃ j : Nat, im = (j : Int) := ⟨im.toNat, by omega⟩
 obtain ⟨jo, rfl⟩ : ∃ j : Nat, io = (j : Int) := ⟨io.toNat, by omega⟩
 obtain ⟨jc, rfl⟩ : ∃ j : Nat, ic = (j : Int) := ⟨ic.toNat, by omega⟩
 have hjm : jm < u.methods.length := by omega
 have hjo : jo < u.objects.length := by omega
 have hjc : jc < u.classes.length := by omega
 have G1 := ou.l1; have G2 := ou.l2; have G3 := ou.l3; have G4 := ou.l4
 have X1 := ou.r1.a.1; have X2 := ou.r2.a.1; have X3 := ou.r3.a.1; have X4 := ou.r4.a.1
 have sm2 : SmU (N + 2) u := hs.up (by omega)
 -- the classes, one of them turned
 have hC := ou.r2.e jc hjc
 have hM := ou.r3.e jm hjm
 have hO := ou.r4.e jo hjo
 obtain ⟨cv, hCe, hC1, hC2, hC3, hC4⟩ := hC
 obtain ⟨mv, mw, hMe, hM1, hM2, hM3, hM4⟩ := hM
 obtain ⟨ov, hOe, hO1, hO2⟩ := hO
 have memC := List.getElem_mem hjc
 have memM := List.getElem_mem hjm
 have memO := List.getElem_mem hjo
 have setC : ∀ (K' : AHeap) (o : Nat) (w : AV) (c : UClass), K.next ≤ K'.next → (∀ z, z < K.next → z ≠ x2 → K'.get z = K.get z) → Rd K' x2 0 (setAt k2 (jc * 4 + o) [w]) → o < 4 → (St H (H.next + 2) K' fun G => ClE G c (setAt [.str u.classes[jc].name, iv u.classes[jc].super, iv u.classes[jc].fields, cv] o [w])) → FinR H K' ⟨u.names, u.classes.set jc c, u.methods, u.objects, u.main⟩ [.slice (some (x1, 0)) 1 u.names.length c1, .slice (some (x2, 0)) 4 u.classes.length c2, .slice (some (x3, 0)) 4 u.methods.length c3, .slice (some (x4, 0)) 2 u.objects.length c4, .int .i64 u.main] := fun K' o w c h1 h2 h3 h4 h5 =>
  ou.fin (.inl rfl) h1 h2 (ou.r2.set MonoE.cl hjc h4 h3 (by omega) rfl (by rw [hCe]; exact h5)) (ou.st3 h1 (h2 _ X3 (by omega))) (ou.st4 h1 (h2 _ X4 (by omega)))
 have setM : ∀ (K' : AHeap) (o : Nat) (w : AV) (c : UMethod), K.next ≤ K'.next → (∀ z, z < K.next → z ≠ x3 → K'.get z = K.get z) → Rd K' x3 0 (setAt k3 (jm * 4 + o) [w]) → o < 4 → (St H (H.next + 2) K' fun G => MeE G c (setAt [iv u.methods[jm].args, iv u.methods[jm].temps, mv, mw] o [w])) → FinR H K' ⟨u.names, u.classes, u.methods.set jm c, u.objects, u.main⟩ [.slice (some (x1, 0)) 1 u.names.length c1, .slice (some (x2, 0)) 4 u.classes.length c2, .slice (some (x3, 0)) 4 u.methods.length c3, .slice (some (x4, 0)) 2 u.objects.length c4, .int .i64 u.main] := fun K' o w c h1 h2 h3 h4 h5 =>
  ou.fin (.inr (.inl rfl)) h1 h2 (ou.st2 h1 (h2 _ X2 (by omega))) (ou.r3.set MonoE.me hjm h4 h3 (by omega) rfl (by rw [hMe]; exact h5)) (ou.st4 h1 (h2 _ X4 (by omega)))
 have setO : ∀ (K' : AHeap) (o : Nat) (w : AV) (c : UObj), K.next ≤ K'.next → (∀ z, z < K.next → z ≠ x4 → K'.get z = K.get z) → Rd K' x4 0 (setAt k4 (jo * 2 + o) [w]) → o < 2 → (St H (H.next + 2) K' fun G => ObE G c (setAt [iv u.objects[jo].cls, ov] o [w])) → FinR H K' ⟨u.names, u.classes, u.methods, u.objects.set jo c, u.main⟩ [.slice (some (x1, 0)) 1 u.names.length c1, .slice (some (x2, 0)) 4 u.classes.length c2, .slice (some (x3, 0)) 4 u.methods.length c3, .slice (some (x4, 0)) 2 u.objects.length c4, .int .i64 u.main] := fun K' o w c h1 h2 h3 h4 h5 =>
  ou.fin (.inr (.inr rfl)) h1 h2 (ou.st2 h1 (h2 _ X2 (by omega))) (ou.st3 h1 (h2 _ X3 (by omega))) (ou.r4.set MonoE.ob hjo h4 h3 (by omega) rfl (by rw [hOe]; exact h5))
 -- what is said of the sizes
 have szC : ∀ c : UClass, c.binds.length ≤ N + 2 → SmU (N + 2) ⟨u.names, u.classes.set jc c, u.methods, u.objects, u.main⟩ ∧ GeU ⟨u.names, u.classes.set jc c, u.methods, u.objects, u.main⟩ := fun c hc =>
  ⟨⟨sm2.n, by rw [List.length_set]; exact sm2.c, sm2.m, sm2.o, fun d hd => by rcases List.mem_or_eq_of_mem_set hd with h | rfl; exact sm2.cb d h; exact hc, sm2.ml, sm2.mc, sm2.of⟩, ⟨by rw [List.length_set]; exact g1, g2, g3⟩⟩
 have szM : ∀ c : UMethod, c.lits.length ≤ N + 2 → c.code.length ≤ N + 2 → SmU (N + 2) ⟨u.names, u.classes, u.methods.set jm c, u.objects, u.main⟩ ∧ GeU ⟨u.names, u.classes, u.methods.set jm c, u.objects, u.main⟩ := fun c hc hc' =>
  ⟨⟨sm2.n, sm2.c, by rw [List.length_set]; exact sm2.m, sm2.o, sm2.cb, fun d hd => by rcases List.mem_or_eq_of_mem_set hd with h | rfl; exact sm2.ml d h; exact hc, fun d hd => by rcases List.mem_or_eq_of_mem_set hd with h | rfl; exact sm2.mc d h; exact hc', sm2.of⟩, ⟨g1, by rw [List.length_set]; exact g2, g3⟩⟩
 have szO : ∀ c : UObj, c.fields.length ≤ N + 2 → SmU (N + 2) ⟨u.names, u.classes, u.methods, u.objects.set jo c, u.main⟩ ∧ GeU ⟨u.names, u.classes, u.methods, u.objects.set jo c, u.main⟩ := fun c hc =>
  ⟨⟨sm2.n, sm2.c, sm2.m, by rw [List.length_set]; exact sm2.o, sm2.cb, sm2.ml, sm2.mc, fun d hd => by rcases List.mem_or_eq_of_mem_set hd with h | rfl; exact sm2.of d h; exact hc⟩, ⟨g1, g2, by rw [List.length_set]; exact g3⟩⟩
 have lC : ∀ o v, ([.str u.classes[jc].name, iv u.classes[jc].super, iv u.classes[jc].fields, cv] : List AV)[o]? = some v → loadA K x2 (jc * 4 + o) 1 = some [v] := fun o v ho => by
  have hle : (jc + 1) * 4 ≤ u.classes.length * 4 := Nat.mul_le_mul_right _ hjc
  rcases ou.r2.a.rd.part (jc * 4) 4 with hr | hr
  ·rw [hCe] at hr
   have := hr.one ho
   rwa [Nat.zero_add] at this
  ·have := ou.r2.l; omega
 have lM : ∀ o v, ([iv u.methods[jm].args, iv u.methods[jm].temps, mv, mw] : List AV)[o]? = some v → loadA K x3 (jm * 4 + o) 1 = some [v] := fun o v ho => by
  have hle : (jm + 1) * 4 ≤ u.methods.length * 4 := Nat.mul_le_mul_right _ hjm
  rcases ou.r3.a.rd.part (jm * 4) 4 with hr | hr
  ·rw [hMe] at hr
   have := hr.one ho
   rwa [Nat.zero_add] at this
  ·have := ou.r3.l; omega
 have lO : ∀ o v, ([iv u.objects[jo].cls, ov] : List AV)[o]? = some v → loadA K x4 (jo * 2 + o) 1 = some [v] := fun o v ho => by
  have hle : (jo + 1) * 2 ≤ u.objects.length * 2 := Nat.mul_le_mul_right _ hjo
  rcases ou.r4.a.rd.part (jo * 2) 2 with hr | hr
  ·rw [hOe] at hr
   have := hr.one ho
   rwa [Nat.zero_add] at this
  ·have := ou.r4.l; omega
 rcases (by omega : wh = 2 ∨ wh = 3 ∨ wh = 5 ∨ wh = 6 ∨ wh = 9 ∨ wh = 0 ∨ wh = 1 ∨ wh = 4 ∨ wh = 7 ∨ wh = 8 ∨ wh = 10 ∨ wh = 11 ∨ wh = 12 ∨ wh = 13) with rfl | rfl | rfl | rfl | rfl | rfl | rfl | rfl | rfl | rfl | rfl | rfl | rfl | rfl
 ·-- Super
  obtain ⟨K1, e1, n1, p1, a1⟩ := ou.r2.put (i := jc) (o := 1) hjc (by omega) (.int .i64 n)
  obtain ⟨f1, K2, f2, f3, f4, f5⟩ := setC K1 1 (.int .i64 n) ⟨u.classes[jc].name, n, u.classes[jc].fields, u.classes[jc].binds⟩ (by omega) (fun z _ hz => p1 z hz) a1.rd (by omega) (St.of fun G sG => ⟨cv, rfl, hC1, hn, hC3, MonoE.enc.sl _ _ _ _ hC4 sG⟩)
  have := szC ⟨u.classes[jc].name, n, u.classes[jc].fields, u.classes[jc].binds⟩ (sm2.cb u.classes[jc] memC)
  simp -implicitDefEqProofs only [hn1, Int.reduceBEq, e1, f1, f2, f3, Bool.false_eq_true, go_sem]
  exact ⟨_, _, rfl, f4, this.1, this.2, f5⟩
 ·-- Fields
  obtain ⟨K1, e1, n1, p1, a1⟩ := ou.r2.put (i := jc) (o := 2) hjc (by omega) (.int .i64 n)
  obtain ⟨f1, K2, f2, f3, f4, f5⟩ := setC K1 2 (.int .i64 n) ⟨u.classes[jc].name, u.classes[jc].super, n, u.classes[jc].binds⟩ (by omega) (fun z _ hz => p1 z hz) a1.rd (by omega) (St.of fun G sG => ⟨cv, rfl, hC1, hC2, hn, MonoE.enc.sl _ _ _ _ hC4 sG⟩)
  have := szC ⟨u.classes[jc].name, u.classes[jc].super, n, u.classes[jc].binds⟩ (sm2.cb u.classes[jc] memC)
  simp -implicitDefEqProofs only [hn1, Int.reduceBEq, e1, f1, f2, f3, Bool.false_eq_true, go_sem]
  exact ⟨_, _, rfl, f4, this.1, this.2, f5⟩
 ·-- Args
  obtain ⟨K1, e1, n1, p1, a1⟩ := ou.r3.put (i := jm) (o := 0) hjm (by omega) (.int .i64 n)
  obtain ⟨f1, K2, f2, f3, f4, f5⟩ := setM K1 0 (.int .i64 n) ⟨n, u.methods[jm].temps, u.methods[jm].lits, u.methods[jm].code⟩ (by omega) (fun z _ hz => p1 z hz) a1.rd (by omega) (St.of fun G sG => ⟨mv, mw, rfl, hn, hM2, MonoE.enc.sl _ _ _ _ hM3 sG, MonoE.enc.sl _ _ _ _ hM4 sG⟩)
  have := szM ⟨n, u.methods[jm].temps, u.methods[jm].lits, u.methods[jm].code⟩ (sm2.ml u.methods[jm] memM) (sm2.mc u.methods[jm] memM)
  rw [Nat.add_zero] at e1
  simp -implicitDefEqProofs only [hn1, Int.reduceBEq, e1, f1, f2, f3, Bool.false_eq_true, go_sem]
  exact ⟨_, _, rfl, f4, this.1, this.2, f5⟩
 ·-- Temps
  obtain ⟨K1, e1, n1, p1, a1⟩ := ou.r3.put (i := jm) (o := 1) hjm (by omega) (.int .i64 n)
  obtain ⟨f1, K2, f2, f3, f4, f5⟩ := setM K1 1 (.int .i64 n) ⟨u.methods[jm].args, n, u.methods[jm].lits, u.methods[jm].code⟩ (by omega) (fun z _ hz => p1 z hz) a1.rd (by omega) (St.of fun G sG => ⟨mv, mw, rfl, hM1, hn, MonoE.enc.sl _ _ _ _ hM3 sG, MonoE.enc.sl _ _ _ _ hM4 sG⟩)
  have := szM ⟨u.methods[jm].args, n, u.methods[jm].lits, u.methods[jm].code⟩ (sm2.ml u.methods[jm] memM) (sm2.mc u.methods[jm] memM)
  simp -implicitDefEqProofs only [hn1, Int.reduceBEq, e1, f1, f2, f3, Bool.false_eq_true, go_sem]
  exact ⟨_, _, rfl, f4, this.1, this.2, f5⟩
 ·-- Class
  obtain ⟨K1, e1, n1, p1, a1⟩ := ou.r4.put (i := jo) (o := 0) hjo (by omega) (.int .i64 n)
  obtain ⟨f1, K2, f2, f3, f4, f5⟩ := setO K1 0 (.int .i64 n) ⟨n, u.objects[jo].fields⟩ (by omega) (fun z _ hz => p1 z hz) a1.rd (by omega) (St.of fun G sG => ⟨ov, rfl, hn, MonoE.enc.sl _ _ _ _ hO2 sG⟩)
  have := szO ⟨n, u.objects[jo].fields⟩ (sm2.of u.objects[jo] memO)
  rw [Nat.add_zero] at e1
  simp -implicitDefEqProofs only [hn1, Int.reduceBEq, e1, f1, f2, f3, Bool.false_eq_true, go_sem]
  exact ⟨_, _, rfl, f4, this.1, this.2, f5⟩
 rotate_left 2
 ·-- Binds
  obtain ⟨v15, h15, b15⟩ := and_le at' 15 (by decide) (by decide)
  obtain ⟨p, q, r, rfl, -⟩ := hC4.shape
  have hbl := hs.cb _ memC
  obtain ⟨w, K2, z, K3, e1, e2, s2, s3, ⟨wp, wq, wr, rfl⟩, hz, st⟩ := append_two (bytes := 16) hC4 ou.sm (a := (n, (v15 : Int))) ⟨hn, by unfold I64; omega⟩ rfl (by omega) (by omega)
  have ld : loadA (K.newRow []) x2 (jc * 4 + 3) 1 = some [.slice p q u.classes[jc].binds.length r] := by rw [(Chg.newRow K []).ld X2]; exact lC 3 _ rfl
  obtain ⟨K1, e3, n3, p3, a3⟩ := (ou.keep s3).r2.put (i := jc) (o := 3) hjc (by omega) (.slice (some (z, 0)) 2 (u.classes[jc].binds.length + 1) false)
  have n03 := s3.1
  obtain ⟨f1, K4, f2, f3, f4, f5⟩ := setC K1 3 (.slice (some (z, 0)) 2 (u.classes[jc].binds.length + 1) false) ⟨u.classes[jc].name, u.classes[jc].super, u.classes[jc].fields, u.classes[jc].binds ++ [(n, (v15 : Int))]⟩ (by omega) (fun z z1 hz => by rw [p3 z hz, s3.gt z1]) a3.rd (by omega) (((st.step (K1 := K1) (by omega) fun z h1 _ => p3 z (by omega)).low (by omega)).map fun G hG => ⟨_, rfl, hC1, hC2, hC3, hG⟩)
  have := szC ⟨u.classes[jc].name, u.classes[jc].super, u.classes[jc].fields, u.classes[jc].binds ++ [(n, (v15 : Int))]⟩ (by simp; omega)
  simp only [prC, iv] at e2
  simp -implicitDefEqProofs only [hn1, Int.reduceBEq, ld, b15, e1, e2, e3, f1, f2, f3, Bool.false_eq_true, ↓WP_seq, ↓WP_skip, ↓WP_region, ↓WP_dregion, ↓WP_cond, ↓WP_block, ↓WP_exit, ↓WP_ret, ↓OW_nil, ↓OW_cons, ↓DW_nil, ↓DW_cons, ↓XW_call, XW, exA, KO_eq, OptK_some, EvK_some, GW2_true, GW2_false, KS_normal, KS_ret, KS_exit, KB_normal, KB_ret, KB_exit, CP2_bool, RP_ret, putA_some, putA_none, ev_t, ev_c, evs, evo, wantA, initA, resA, Tr.get_set, vl, chkOk, cond_true, cond_false, Nat.add_zero, Nat.mul_one, Nat.one_mul, Nat.zero_add, Nat.zero_mul, aggOf, pInt, binA, unA, intA, beq_true, beq_false, Bool.not_true, Bool.not_false, Bool.not_eq_true, and_self, and_true, true_and, ↓reduceIte, reduceIte, Nat.reduceEqDiff, Nat.succ_ne_self, Nat.reduceAdd, Nat.reduceMul, Nat.reduceSub, Nat.reduceBEq, Nat.reduceLT, Nat.reduceLeDiff, Int.cast_ofNat_Int, Int.reduceToNat, Int.reduceLT, Int.reduceLE, Int.reduceGE, Int.reduceGT, Int.reduceEq, Int.reduceNe, Int.reduceAdd, Int.reduceSub, Int.reduceNeg, decide_true, decide_false, Int.toNat_natCast, reduceCtorEq, List.nil_append, List.cons_append, AV.boxy, AV.cells, List.length_cons, List.length_nil, Nat.beq_refl, AOp.cl, ↓OW_guard, ↓DW_guard, KDW_0, KDW_1, KDW_2, OWskip_eq, DWskip_eq, fillA, setAt, DChk, DAt, stepA, ble_dec, beq_dec, Bool.and_self, Bool.and_true, Bool.true_and, Bool.and_false, Bool.false_and, List.take_succ_cons, List.take_zero, List.drop_succ_cons, List.drop_zero, List.take_nil, List.drop_nil, List.append_nil, eqAV, eqAVL, BEq.rfl, sameS, Option.map, Option.isNone, wrap64, gt_iff_lt, ge_iff_le, Int.lt_irrefl, Int.le_refl]
  exact ⟨_, _, rfl, f4, this.1, this.2, f5⟩
 rotate_left
 ·-- Lits
  obtain ⟨p, q, r, rfl, -⟩ := hM3.shape
  have hbl := hs.ml _ memM
  obtain ⟨w, K2, z, K3, e1, e2, s2, s3, ⟨wp, wq, wr, rfl⟩, hz, st⟩ := append_two (bytes := 16) hM3 ou.sm (a := (n, at')) ⟨hn, ha⟩ rfl (by omega) (by omega)
  have ld : loadA (K.newRow []) x3 (jm * 4 + 2) 1 = some [.slice p q u.methods[jm].lits.length r] := by rw [(Chg.newRow K []).ld X3]; exact lM 2 _ rfl
  obtain ⟨K1, e3, n3, p3, a3⟩ := (ou.keep s3).r3.put (i := jm) (o := 2) hjm (by omega) (.slice (some (z, 0)) 2 (u.methods[jm].lits.length + 1) false)
  have n03 := s3.1
  obtain ⟨f1, K4, f2, f3, f4, f5⟩ := setM K1 2 (.slice (some (z, 0)) 2 (u.methods[jm].lits.length + 1) false) ⟨u.methods[jm].args, u.methods[jm].temps, u.methods[jm].lits ++ [(n, at')], u.methods[jm].code⟩ (by omega) (fun z z1 hz => by rw [p3 z hz, s3.gt z1]) a3.rd (by omega) ((((st.step (K1 := K1) (by omega) fun z h1 _ => p3 z (by omega)).low (by omega)).and (St.of fun G sG => MonoE.enc.sl _ _ _ _ hM4 sG)).map fun G hG => ⟨_, _, rfl, hM1, hM2, hG.1, hG.2⟩)
  have := szM ⟨u.methods[jm].args, u.methods[jm].temps, u.methods[jm].lits ++ [(n, at')], u.methods[jm].code⟩ (by simp; omega) (sm2.mc u.methods[jm] memM)
  simp only [prC, iv] at e2
  simp -implicitDefEqProofs only [hn1, Int.reduceBEq, ld, e1, e2, e3, f1, f2, f3, Bool.false_eq_true, go_sem]
  exact ⟨_, _, rfl, f4, this.1, this.2, f5⟩
 ·-- an object's fields
  obtain ⟨v7, h7, b7⟩ := and_le n 7 (by decide) (by decide)
  obtain ⟨p, q, r, rfl, -⟩ := hO2.shape
  have hbl := hs.of _ memO
  obtain ⟨w, K2, z, K3, e1, e2, s2, s3, ⟨wp, wq, wr, rfl⟩, hz, st⟩ := append_two (bytes := 16) hO2 ou.sm (a := ((v7 : Int), at')) ⟨by unfold I64; omega, ha⟩ rfl (by omega) (by omega)
  have ld : loadA (K.newRow []) x4 (jo * 2 + 1) 1 = some [.slice p q u.objects[jo].fields.length r] := by rw [(Chg.newRow K []).ld X4]; exact lO 1 _ rfl
  obtain ⟨K1, e3, n3, p3, a3⟩ := (ou.keep s3).r4.put (i := jo) (o := 1) hjo (by omega) (.slice (some (z, 0)) 2 (u.objects[jo].fields.length + 1) false)
  have n03 := s3.1
  obtain ⟨f1, K4, f2, f3, f4, f5⟩ := setO K1 1 (.slice (some (z, 0)) 2 (u.objects[jo].fields.length + 1) false) ⟨u.objects[jo].cls, u.objects[jo].fields ++ [((v7 : Int), at')]⟩ (by omega) (fun z z1 hz => by rw [p3 z hz, s3.gt z1]) a3.rd (by omega) (((st.step (K1 := K1) (by omega) fun z h1 _ => p3 z (by omega)).low (by omega)).map fun G hG => ⟨_, rfl, hO1, hG⟩)
  have := szO ⟨u.objects[jo].cls, u.objects[jo].fields ++ [((v7 : Int), at')]⟩ (by simp; omega)
  simp only [prC, iv] at e2
  simp -implicitDefEqProofs only [hn1, Int.reduceBEq, ld, b7, e1, e2, e3, f1, f2, f3, Bool.false_eq_true, ↓WP_seq, ↓WP_skip, ↓WP_region, ↓WP_dregion, ↓WP_cond, ↓WP_block, ↓WP_exit, ↓WP_ret, ↓OW_nil, ↓OW_cons, ↓DW_nil, ↓DW_cons, ↓XW_call, XW, exA, KO_eq, OptK_some, EvK_some, GW2_true, GW2_false, KS_normal, KS_ret, KS_exit, KB_normal, KB_ret, KB_exit, CP2_bool, RP_ret, putA_some, putA_none, ev_t, ev_c, evs, evo, wantA, initA, resA, Tr.get_set, vl, chkOk, cond_true, cond_false, Nat.add_zero, Nat.mul_one, Nat.one_mul, Nat.zero_add, Nat.zero_mul, aggOf, pInt, binA, unA, intA, beq_true, beq_false, Bool.not_true, Bool.not_false, Bool.not_eq_true, and_self, and_true, true_and, ↓reduceIte, reduceIte, Nat.reduceEqDiff, Nat.succ_ne_self, Nat.reduceAdd, Nat.reduceMul, Nat.reduceSub, Nat.reduceBEq, Nat.reduceLT, Nat.reduceLeDiff, Int.cast_ofNat_Int, Int.reduceToNat, Int.reduceLT, Int.reduceLE, Int.reduceGE, Int.reduceGT, Int.reduceEq, Int.reduceNe, Int.reduceAdd, Int.reduceSub, Int.reduceNeg, decide_true, decide_false, Int.toNat_natCast, reduceCtorEq, List.nil_append, List.cons_append, AV.boxy, AV.cells, List.length_cons, List.length_nil, Nat.beq_refl, AOp.cl, ↓OW_guard, ↓DW_guard, KDW_0, KDW_1, KDW_2, OWskip_eq, DWskip_eq, fillA, setAt, DChk, DAt, stepA, ble_dec, beq_dec, Bool.and_self, Bool.and_true, Bool.true_and, Bool.and_false, Bool.false_and, List.take_succ_cons, List.take_zero, List.drop_succ_cons, List.drop_zero, List.take_nil, List.drop_nil, List.append_nil, eqAV, eqAVL, BEq.rfl, sameS, Option.map, Option.isNone, wrap64, gt_iff_lt, ge_iff_le, Int.lt_irrefl, Int.le_refl]
  exact ⟨_, _, rfl, f4, this.1, this.2, f5⟩
 rotate_left
 ·-- Main
  obtain ⟨K1, e1, n1, a1, p1⟩ := ou.box.store (o := 4) (vs := [.int .i64 n]) (cs' := [.slice (some (x1, 0)) 1 u.names.length c1, .slice (some (x2, 0)) 4 u.classes.length c2, .slice (some (x3, 0)) 4 u.methods.length c3, .slice (some (x4, 0)) 2 u.objects.length c4, .int .i64 n]) (by simp) rfl
  have p1' : ∀ z, z ≠ H.next → K1.get z = K.get z := fun z hz => p1 z hz (fun h => h)
  have hsm := ou.sm.1
  obtain ⟨f1, K2, f2, f3, f4, f5⟩ := fin_unit (u := ⟨u.names, u.classes, u.methods, u.objects, n⟩) (Nat.le_refl _) (Sm.of (by omega) fun z hz => by rw [p1' z (by omega), ou.sm.gt hz]) a1 (ou.res.keep (by omega) (p1' _ (by omega))) rfl fun G ga gb gc => ⟨_, _, _, _, rfl, hn, ou.st1 (K' := K1) (by omega) (p1' _ (by omega)) G ga gb gc, ou.st2 (K' := K1) (by omega) (p1' _ (by omega)) G ga gb gc, ou.st3 (K' := K1) (by omega) (p1' _ (by omega)) G ga gb gc, ou.st4 (K' := K1) (by omega) (p1' _ (by omega)) G ga gb gc⟩
  simp -implicitDefEqProofs only [hn1, Int.reduceBEq, e1, f1, f2, f3, Bool.false_eq_true, go_sem]
  exact ⟨_, _, rfl, f4, ⟨sm2.n, sm2.c, sm2.m, sm2.o, sm2.cb, sm2.ml, sm2.mc, sm2.of⟩, ⟨g1, g2, g3⟩, f5⟩
 rotate_left
 ·-- a name more
  obtain ⟨v3, h3, b3⟩ := and_le n 3 (by decide) (by decide)
  have T := Chg.newRow K [.str [103, 111], .str [110, 101, 119], .str [], .str [98, 97, 100, 33]]
  have RT := Rd.newRow K [.str [103, 111], .str [110, 101, 119], .str [], .str [98, 97, 100, 33]]
  have nT : (K.newRow [.str [103, 111], .str [110, 101, 119], .str [], .str [98, 97, 100, 33]]).next = K.next + 1 := rfl
  generalize eT : K.newRow [.str [103, 111], .str [110, 101, 119], .str [], .str [98, 97, 100, 33]] = KT at T RT nT
  have ouT := ou.keep T
  have d0T : loadA KT H.next 0 1 = some [.slice (some (x1, 0)) 1 u.names.length c1] := by rw [T.ld ou.box.1, d0]
  have step : ∀ (j : Nat) (s : List Nat), ([.str [103, 111], .str [110, 101, 119], .str [], .str [98, 97, 100, 33]] : List AV)[j]? = some (.str s) → stOk s → ∃ K2 K3 K4, loadA KT K.next j 1 = some [.str s] ∧ loadA (KT.newRow [.str s]) K.next j 1 = some [.str s] ∧ loadA (KT.newRow [.str s]) H.next 0 1 = some [.slice (some (x1, 0)) 1 u.names.length c1] ∧ appendF (KT.newRow [.str s]) 1 16 false (.slice (some (x1, 0)) 1 u.names.length c1) (.slice (some (KT.next, 0)) 1 1 true) = some (.slice (some (KT.next + 1, 0)) 1 (u.names.length + 1) false, K2) ∧ storeA K2 H.next 0 [.slice (some (KT.next + 1, 0)) 1 (u.names.length + 1) false] = some K3 ∧ loadA K3 H.next 0 5 = some [.slice (some (KT.next + 1, 0)) 1 (u.names.length + 1) false, .slice (some (x2, 0)) 4 u.classes.length c2, .slice (some (x3, 0)) 4 u.methods.length c3, .slice (some (x4, 0)) 2 u.objects.length c4, .int .i64 u.main] ∧ storeA K3 (H.next + 1) 0 [.slice (some (KT.next + 1, 0)) 1 (u.names.length + 1) false, .slice (some (x2, 0)) 4 u.classes.length c2, .slice (some (x3, 0)) 4 u.methods.length c3, .slice (some (x4, 0)) 2 u.objects.length c4, .int .i64 u.main] = some K4 ∧ loadA K4 (H.next + 1) 0 5 = some [.slice (some (KT.next + 1, 0)) 1 (u.names.length + 1) false, .slice (some (x2, 0)) 4 u.classes.length c2, .slice (some (x3, 0)) 4 u.methods.length c3, .slice (some (x4, 0)) 2 u.objects.length c4, .int .i64 u.main] ∧ OddR N H (.agg [.slice (some (KT.next + 1, 0)) 1 (u.names.length + 1) false, .slice (some (x2, 0)) 4 u.classes.length c2, .slice (some (x3, 0)) 4 u.methods.length c3, .slice (some (x4, 0)) 2 u.objects.length c4, .int .i64 u.main]) K4 := by
   intro j s hj hs'
   have S := Chg.newRow KT [.str s]
   have lj := RT.one hj
   rw [Nat.zero_add] at lj
   have gx : Gx KT 1 (.slice (some (x1, 0)) 1 u.names.length c1) u.names.length k1 fun z => x1 ≤ z ∧ z < KT.next := by
    obtain ⟨y1, c, par, y2, y3, y4⟩ := ouT.r1.a
    exact ⟨ouT.r1.l, x1, c1, rfl, ⟨Nat.le_refl _, y1⟩, y1, c, par, y2, y3, fun z hz => (y4 z hz).elim⟩
   obtain ⟨K2, e2, n2, ch, hl3, y, cl3, he3, hp3, a3⟩ := gx.push (bytes := 16) (fun z hz => hz.2) (ys := [.str s]) rfl (by omega) (by omega)
   cases he3
   have hub : ∀ z, ub (.slice (some (x1, 0)) 1 u.names.length c1) = some z → z = x1 := fun z hz => by
    cases c1 with
    | true => cases hz
    | false => cases hz; rfl
   have kp2 : ∀ z, z < KT.next → z ≠ x1 → K2.get z = KT.get z := fun z h1 h2 => ch.keep h1 fun e => h2 (hub z e)
   have n02 : KT.next ≤ K2.next := by omega
   have hBK := ouT.box.1
   have hsm := ouT.sm.1
   obtain ⟨K3, e3, n3, a3', p3⟩ := (ouT.box.keep n02 (kp2 _ hBK (by omega))).store (o := 0) (vs := [.slice (some (KT.next + 1, 0)) 1 (u.names.length + 1) false]) (cs' := [.slice (some (KT.next + 1, 0)) 1 (u.names.length + 1) false, .slice (some (x2, 0)) 4 u.classes.length c2, .slice (some (x3, 0)) 4 u.methods.length c3, .slice (some (x4, 0)) 2 u.objects.length c4, .int .i64 u.main]) (by simp) rfl
   have p3' : ∀ z, z ≠ H.next → K3.get z = K2.get z := fun z hz => p3 z hz (fun h => h)
   have kp3 : ∀ z, z < KT.next → z ≠ x1 → z ≠ H.next → K3.get z = KT.get z := fun z h1 h2 h3 => by rw [p3' z h3, kp2 z h1 h2]
   have hl2 : (u.names ++ [s]).length = u.names.length + 1 := by simp
   have r3 : Rd K3 (KT.next + 1) 0 (k1 ++ [.str s]) := a3.rd.keep (by omega) (p3' _ (by omega))
   have hk1 := ou.r1.l
   have stN : St H (H.next + 2) K3 fun G => SlE StE 1 G (u.names ++ [s]) [.slice (some (KT.next + 1, 0)) 1 (u.names.length + 1) false] := by
    refine r3.stE (by omega) hl2.symm (by rw [List.length_append, hk1, hl2]; simp) (by rw [hl2]; unfold maxLen; omega) fun q hq => St.of fun G _ => ?_
    by_cases hlt : q < u.names.length
    ·rw [List.drop_append_of_le_length (by omega), List.take_append_of_le_length (by simp; omega), List.getElem_append_left hlt]
     exact ou.r1.e q hlt
    ·obtain rfl : q = u.names.length := by omega
     rw [show u.names.length * 1 = k1.length by omega, List.drop_left, List.getElem_append_right (Nat.le_refl _)]
     simp only [Nat.sub_self, List.getElem_cons_zero]
     exact ⟨rfl, hs'⟩
   have Y2 := ouT.r2.a.1; have Y3 := ouT.r3.a.1; have Y4 := ouT.r4.a.1; have YR := ouT.res.1
   obtain ⟨f1, K4, f2, f3, f4, f5⟩ := fin_unit (u := ⟨u.names ++ [s], u.classes, u.methods, u.objects, u.main⟩) (Nat.le_refl _) (Sm.of (by omega) fun z hz => by rw [kp3 z (by omega) (by omega) (by omega), ouT.sm.gt hz]) a3' (ouT.res.keep (by omega) (kp3 _ (by omega) (by omega) (by omega))) rfl fun G ga gb gc => ⟨_, _, _, _, rfl, hmn, stN G ga gb gc, ouT.st2 (K' := K3) (by omega) (kp3 _ (by omega) (by omega) (by omega)) G ga gb gc, ouT.st3 (K' := K3) (by omega) (kp3 _ (by omega) (by omega) (by omega)) G ga gb gc, ouT.st4 (K' := K3) (by omega) (kp3 _ (by omega) (by omega) (by omega)) G ga gb gc⟩
   exact ⟨K2, K3, K4, lj, by rw [S.ld RT.1, lj], by rw [S.ld (by omega), d0T], e2, e3, f1, f2, f3, _, _, rfl, f4, ⟨by rw [hl2]; omega, sm2.c, sm2.m, sm2.o, sm2.cb, sm2.ml, sm2.mc, sm2.of⟩, ⟨g1, g2, g3⟩, f5⟩
  rcases (by omega : v3 = 0 ∨ v3 = 1 ∨ v3 = 2 ∨ v3 = 3) with rfl | rfl | rfl | rfl
  ·obtain ⟨K2, K3, K4, t1, t2, t3, t4, t5, t6, t7, t8, t9⟩ := step 0 _ rfl ⟨by simp, by simp⟩
   simp -implicitDefEqProofs only [hn1, Int.reduceBEq, eT, d0, d0T, b3, t1, t2, t3, t4, t5, t6, t7, t8, Int.ofNat_zero, Bool.false_eq_true, ↓WP_seq, ↓WP_skip, ↓WP_region, ↓WP_dregion, ↓WP_cond, ↓WP_block, ↓WP_exit, ↓WP_ret, ↓OW_nil, ↓OW_cons, ↓DW_nil, ↓DW_cons, ↓XW_call, XW, exA, KO_eq, OptK_some, EvK_some, GW2_true, GW2_false, KS_normal, KS_ret, KS_exit, KB_normal, KB_ret, KB_exit, CP2_bool, RP_ret, putA_some, putA_none, ev_t, ev_c, evs, evo, wantA, initA, resA, Tr.get_set, vl, chkOk, cond_true, cond_false, Nat.add_zero, Nat.mul_one, Nat.one_mul, Nat.zero_add, Nat.zero_mul, aggOf, pInt, binA, unA, intA, beq_true, beq_false, Bool.not_true, Bool.not_false, Bool.not_eq_true, and_self, and_true, true_and, ↓reduceIte, reduceIte, Nat.reduceEqDiff, Nat.succ_ne_self, Nat.reduceAdd, Nat.reduceMul, Nat.reduceSub, Nat.reduceBEq, Nat.reduceLT, Nat.reduceLeDiff, Int.cast_ofNat_Int, Int.reduceToNat, Int.reduceLT, Int.reduceLE, Int.reduceGE, Int.reduceGT, Int.reduceEq, Int.reduceNe, Int.reduceAdd, Int.reduceSub, Int.reduceNeg, decide_true, decide_false, Int.toNat_natCast, reduceCtorEq, List.nil_append, List.cons_append, AV.boxy, AV.cells, List.length_cons, List.length_nil, Nat.beq_refl, AOp.cl, ↓OW_guard, ↓DW_guard, KDW_0, KDW_1, KDW_2, OWskip_eq, DWskip_eq, fillA, setAt, DChk, DAt, stepA, ble_dec, beq_dec, Bool.and_self, Bool.and_true, Bool.true_and, Bool.and_false, Bool.false_and, List.take_succ_cons, List.take_zero, List.drop_succ_cons, List.drop_zero, List.take_nil, List.drop_nil, List.append_nil, eqAV, eqAVL, BEq.rfl, sameS, Option.map, Option.isNone, wrap64, gt_iff_lt, ge_iff_le, Int.lt_irrefl, Int.le_refl]
   exact t9
  ·obtain ⟨K2, K3, K4, t1, t2, t3, t4, t5, t6, t7, t8, t9⟩ := step 1 _ rfl ⟨by simp, by simp⟩
   simp -implicitDefEqProofs only [hn1, Int.reduceBEq, eT, d0, d0T, b3, t1, t2, t3, t4, t5, t6, t7, t8, Bool.false_eq_true, ↓WP_seq, ↓WP_skip, ↓WP_region, ↓WP_dregion, ↓WP_cond, ↓WP_block, ↓WP_exit, ↓WP_ret, ↓OW_nil, ↓OW_cons, ↓DW_nil, ↓DW_cons, ↓XW_call, XW, exA, KO_eq, OptK_some, EvK_some, GW2_true, GW2_false, KS_normal, KS_ret, KS_exit, KB_normal, KB_ret, KB_exit, CP2_bool, RP_ret, putA_some, putA_none, ev_t, ev_c, evs, evo, wantA, initA, resA, Tr.get_set, vl, chkOk, cond_true, cond_false, Nat.add_zero, Nat.mul_one, Nat.one_mul, Nat.zero_add, Nat.zero_mul, aggOf, pInt, binA, unA, intA, beq_true, beq_false, Bool.not_true, Bool.not_false, Bool.not_eq_true, and_self, and_true, true_and, ↓reduceIte, reduceIte, Nat.reduceEqDiff, Nat.succ_ne_self, Nat.reduceAdd, Nat.reduceMul, Nat.reduceSub, Nat.reduceBEq, Nat.reduceLT, Nat.reduceLeDiff, Int.cast_ofNat_Int, Int.reduceToNat, Int.reduceLT, Int.reduceLE, Int.reduceGE, Int.reduceGT, Int.reduceEq, Int.reduceNe, Int.reduceAdd, Int.reduceSub, Int.reduceNeg, decide_true, decide_false, Int.toNat_natCast, reduceCtorEq, List.nil_append, List.cons_append, AV.boxy, AV.cells, List.length_cons, List.length_nil, Nat.beq_refl, AOp.cl, ↓OW_guard, ↓DW_guard, KDW_0, KDW_1, KDW_2, OWskip_eq, DWskip_eq, fillA, setAt, DChk, DAt, stepA, ble_dec, beq_dec, Bool.and_self, Bool.and_true, Bool.true_and, Bool.and_false, Bool.false_and, List.take_succ_cons, List.take_zero, List.drop_succ_cons, List.drop_zero, List.take_nil, List.drop_nil, List.append_nil, eqAV, eqAVL, BEq.rfl, sameS, Option.map, Option.isNone, wrap64, gt_iff_lt, ge_iff_le, Int.lt_irrefl, Int.le_refl]
   exact t9
  ·obtain ⟨K2, K3, K4, t1, t2, t3, t4, t5, t6, t7, t8, t9⟩ := step 2 _ rfl ⟨by simp, by simp⟩
   simp -implicitDefEqProofs only [hn1, Int.reduceBEq, eT, d0, d0T, b3, t1, t2, t3, t4, t5, t6, t7, t8, Bool.false_eq_true, ↓WP_seq, ↓WP_skip, ↓WP_region, ↓WP_dregion, ↓WP_cond, ↓WP_block, ↓WP_exit, ↓WP_ret, ↓OW_nil, ↓OW_cons, ↓DW_nil, ↓DW_cons, ↓XW_call, XW, exA, KO_eq, OptK_some, EvK_some, GW2_true, GW2_false, KS_normal, KS_ret, KS_exit, KB_normal, KB_ret, KB_exit, CP2_bool, RP_ret, putA_some, putA_none, ev_t, ev_c, evs, evo, wantA, initA, resA, Tr.get_set, vl, chkOk, cond_true, cond_false, Nat.add_zero, Nat.mul_one, Nat.one_mul, Nat.zero_add, Nat.zero_mul, aggOf, pInt, binA, unA, intA, beq_true, beq_false, Bool.not_true, Bool.not_false, Bool.not_eq_true, and_self, and_true, true_and, ↓reduceIte, reduceIte, Nat.reduceEqDiff, Nat.succ_ne_self, Nat.reduceAdd, Nat.reduceMul, Nat.reduceSub, Nat.reduceBEq, Nat.reduceLT, Nat.reduceLeDiff, Int.cast_ofNat_Int, Int.reduceToNat, Int.reduceLT, Int.reduceLE, Int.reduceGE, Int.reduceGT, Int.reduceEq, Int.reduceNe, Int.reduceAdd, Int.reduceSub, Int.reduceNeg, decide_true, decide_false, Int.toNat_natCast, reduceCtorEq, List.nil_append, List.cons_append, AV.boxy, AV.cells, List.length_cons, List.length_nil, Nat.beq_refl, AOp.cl, ↓OW_guard, ↓DW_guard, KDW_0, KDW_1, KDW_2, OWskip_eq, DWskip_eq, fillA, setAt, DChk, DAt, stepA, ble_dec, beq_dec, Bool.and_self, Bool.and_true, Bool.true_and, Bool.and_false, Bool.false_and, List.take_succ_cons, List.take_zero, List.drop_succ_cons, List.drop_zero, List.take_nil, List.drop_nil, List.append_nil, eqAV, eqAVL, BEq.rfl, sameS, Option.map, Option.isNone, wrap64, gt_iff_lt, ge_iff_le, Int.lt_irrefl, Int.le_refl]
   exact t9
  ·obtain ⟨K2, K3, K4, t1, t2, t3, t4, t5, t6, t7, t8, t9⟩ := step 3 _ rfl ⟨by simp, by simp⟩
   simp -implicitDefEqProofs only [hn1, Int.reduceBEq, eT, d0, d0T, b3, t1, t2, t3, t4, t5, t6, t7, t8, Bool.false_eq_true, ↓WP_seq, ↓WP_skip, ↓WP_region, ↓WP_dregion, ↓WP_cond, ↓WP_block, ↓WP_exit, ↓WP_ret, ↓OW_nil, ↓OW_cons, ↓DW_nil, ↓DW_cons, ↓XW_call, XW, exA, KO_eq, OptK_some, EvK_some, GW2_true, GW2_false, KS_normal, KS_ret, KS_exit, KB_normal, KB_ret, KB_exit, CP2_bool, RP_ret, putA_some, putA_none, ev_t, ev_c, evs, evo, wantA, initA, resA, Tr.get_set, vl, chkOk, cond_true, cond_false, Nat.add_zero, Nat.mul_one, Nat.one_mul, Nat.zero_add, Nat.zero_mul, aggOf, pInt, binA, unA, intA, beq_true, beq_false, Bool.not_true, Bool.not_false, Bool.not_eq_true, and_self, and_true, true_and, ↓reduceIte, reduceIte, Nat.reduceEqDiff, Nat.succ_ne_self, Nat.reduceAdd, Nat.reduceMul, Nat.reduceSub, Nat.reduceBEq, Nat.reduceLT, Nat.reduceLeDiff, Int.cast_ofNat_Int, Int.reduceToNat, Int.reduceLT, Int.reduceLE, Int.reduceGE, Int.reduceGT, Int.reduceEq, Int.reduceNe, Int.reduceAdd, Int.reduceSub, Int.reduceNeg, decide_true, decide_false, Int.toNat_natCast, reduceCtorEq, List.nil_append, List.cons_append, AV.boxy, AV.cells, List.length_cons, List.length_nil, Nat.beq_refl, AOp.cl, ↓OW_guard, ↓DW_guard, KDW_0, KDW_1, KDW_2, OWskip_eq, DWskip_eq, fillA, setAt, DChk, DAt, stepA, ble_dec, beq_dec, Bool.and_self, Bool.and_true, Bool.true_and, Bool.and_false, Bool.false_and, List.take_succ_cons, List.take_zero, List.drop_succ_cons, List.drop_zero, List.take_nil, List.drop_nil, List.append_nil, eqAV, eqAVL, BEq.rfl, sameS, Option.map, Option.isNone, wrap64, gt_iff_lt, ge_iff_le, Int.lt_irrefl, Int.le_refl]
   exact t9
 ·-- some names less
  simp -implicitDefEqProofs only [Int.reduceBEq, d0, Bool.false_eq_true, go_sem]
  refine CW.mono (c_withinN at' 0 _ K (by omega) (by omega) (by omega)) ?_
  rintro _ K0 ⟨⟨kk, rfl, kk0, kk1⟩, rfl⟩
  obtain ⟨k, rfl⟩ : ∃ j : Nat, kk = (j : Int) := ⟨kk.toNat, by omega⟩
  have hk : k ≤ u.names.length := by omega
  have sl0 : SlE StE 1 H u.names [.slice z1 z2 u.names.length z3] := q1
  have stA := ou.st1 (K' := K0) (Nat.le_refl _) rfl
  have eS := (SlE.pre (stA K0 (Nat.le_refl _) (fun _ _ _ => rfl) ou.sm) hk).1
  generalize hcl : (c1 && decide (k = u.names.length)) = ck at eS
  obtain ⟨K1, e1, n1, a1, p1⟩ := ou.box.store (o := 0) (vs := [.slice (some (x1, 0)) 1 k ck]) (cs' := [.slice (some (x1, 0)) 1 k ck, .slice (some (x2, 0)) 4 u.classes.length c2, .slice (some (x3, 0)) 4 u.methods.length c3, .slice (some (x4, 0)) 2 u.objects.length c4, .int .i64 u.main]) (by simp) rfl
  have p1' : ∀ z, z ≠ H.next → K1.get z = K0.get z := fun z hz => p1 z hz (fun h => h)
  have hsm := ou.sm.1
  obtain ⟨f1, K2, f2, f3, f4, f5⟩ := fin_unit (u := ⟨u.names.take k, u.classes, u.methods, u.objects, u.main⟩) (Nat.le_refl _) (Sm.of (by omega) fun z hz => by rw [p1' z (by omega), ou.sm.gt hz]) a1 (ou.res.keep (by omega) (p1' _ (by omega))) rfl fun G ga gb gc => ⟨_, _, _, _, rfl, hmn, by rw [← hcl]; exact (SlE.pre (ou.st1 (K' := K1) (by omega) (p1' _ (by omega)) G ga gb gc) hk).2, ou.st2 (K' := K1) (by omega) (p1' _ (by omega)) G ga gb gc, ou.st3 (K' := K1) (by omega) (p1' _ (by omega)) G ga gb gc, ou.st4 (K' := K1) (by omega) (p1' _ (by omega)) G ga gb gc⟩
  simp -implicitDefEqProofs only [hn1, Int.reduceBEq, d0, eS, e1, f1, f2, f3, Bool.false_eq_true, go_sem]
  exact ⟨_, _, rfl, f4, ⟨by have := List.length_take_le k u.names; show (u.names.take k).length ≤ N + 2; omega, sm2.c, sm2.m, sm2.o, sm2.cb, sm2.ml, sm2.mc, sm2.of⟩, ⟨g1, g2, g3⟩, f5⟩
 ·-- code ahead
  obtain ⟨p, q, r, rfl, -⟩ := hM4.shape
  have hbl := hs.mc _ memM
  have cv1 : ∀ G, convA (.int .u8) (.int .i64 n) G = some (.int .u8 (wb n : Int), G) := fun G => by rw [← wb_wrap]; rfl
  have cv2 : ∀ G, convA (.int .u8) (.int .i64 at') G = some (.int .u8 (wb at' : Int), G) := fun G => by rw [← wb_wrap]; rfl
  have S := Chg.newRow K [.int .u8 (wb n : Int), .int .u8 (wb at' : Int)]
  have A := Arr.newRow K [.int .u8 (wb n : Int), .int .u8 (wb at' : Int)] fun _ => False
  have nS : (K.newRow [.int .u8 (wb n : Int), .int .u8 (wb at' : Int)]).next = K.next + 1 := rfl
  have ld : loadA (K.newRow [.int .u8 (wb n : Int), .int .u8 (wb at' : Int)]) x3 (jm * 4 + 3) 1 = some [.slice p q u.methods[jm].code.length r] := by rw [S.ld X3]; exact lM 3 _ rfl
  generalize eS : K.newRow [.int .u8 (wb n : Int), .int .u8 (wb at' : Int)] = KS at S A nS ld
  obtain ⟨cs, t1, t2, t3⟩ := SlE.row MonoE.enc (MonoE.enc.sl _ _ _ _ hM4 (ou.sm.trans S))
  obtain ⟨z, cl, K2, e2, s2, hz, a2⟩ := append_ownC (k := 2) (bytes := 1) A rfl t1 t2 (by omega) (by omega)
  have n02 := s2.1
  have hz2 : K.next ≤ z := by omega
  have s02 := S.trans s2
  have hlen : (wb n :: wb at' :: u.methods[jm].code).length = 2 + u.methods[jm].code.length := by simp; omega
  have st : St H K.next K2 fun G => SlE ByE 1 G (wb n :: wb at' :: u.methods[jm].code) [.slice (some (z, 0)) 1 (2 + u.methods[jm].code.length) cl] := by
   refine a2.rd.stE hz2 hlen.symm (by rw [hlen, List.length_append, t2]; simp) (by rw [hlen]; unfold maxLen; omega) fun j hj => St.of fun G _ => ?_
   rcases (by omega : j = 0 ∨ j = 1 ∨ 2 ≤ j) with rfl | rfl | h2
   ·exact ⟨rfl, wb_lt _⟩
   ·exact ⟨rfl, wb_lt _⟩
   ·obtain ⟨i, rfl⟩ : ∃ i, j = i + 1 + 1 := ⟨j - 2, by omega⟩
    have hi : i < u.methods[jm].code.length := by rw [hlen] at hj; omega
    have := t3 i hi
    rw [Nat.mul_one] at this ⊢
    simp only [List.cons_append, List.nil_append, List.drop_succ_cons, List.getElem_cons_succ]
    exact this
  obtain ⟨K1, e3, n3, p3, a3⟩ := (ou.keep s02).r3.put (i := jm) (o := 3) hjm (by omega) (.slice (some (z, 0)) 1 (2 + u.methods[jm].code.length) cl)
  obtain ⟨f1, K4, f2, f3, f4, f5⟩ := setM K1 3 (.slice (some (z, 0)) 1 (2 + u.methods[jm].code.length) cl) ⟨u.methods[jm].args, u.methods[jm].temps, u.methods[jm].lits, wb n :: wb at' :: u.methods[jm].code⟩ (by omega) (fun z z1 hz => by rw [p3 z hz, s02.gt z1]) a3.rd (by omega) ((((st.step (K1 := K1) (by omega) fun z h1 _ => p3 z (by omega)).low (by omega)).and (St.of fun G sG => MonoE.enc.sl _ _ _ _ hM3 sG)).map fun G hG => ⟨_, _, rfl, hM1, hM2, hG.2, hG.1⟩)
  have := szM ⟨u.methods[jm].args, u.methods[jm].temps, u.methods[jm].lits, wb n :: wb at' :: u.methods[jm].code⟩ (sm2.ml u.methods[jm] memM) (by rw [hlen]; omega)
  simp -implicitDefEqProofs only [hn1, Int.reduceBEq, cv1, cv2, eS, ld, e2, e3, f1, f2, f3, Bool.false_eq_true, go_sem]
  exact ⟨_, _, rfl, f4, this.1, this.2, f5⟩
 ·-- an object's fields all turned
  obtain ⟨v7, h7, b7⟩ := and_le n 7 (by decide) (by decide)
  obtain ⟨p, q, r, rfl, -⟩ := hO2.shape
  have hbl := hs.of _ memO
  have S := Chg.newRow K []
  have A := Arr.newRow K [] fun _ => False
  have nS : (K.newRow []).next = K.next + 1 := rfl
  have ld : loadA (K.newRow []) x4 (jo * 2 + 1) 1 = some [.slice p q u.objects[jo].fields.length r] := by rw [S.ld X4]; exact lO 1 _ rfl
  generalize eS : K.newRow [] = KS at S A nS ld
  obtain ⟨cs, t1, t2, t3⟩ := SlE.row MonoE.enc (MonoE.enc.sl _ _ _ _ hO2 (ou.sm.trans S))
  obtain ⟨z, cl, K2, e2, s2, hz, a2⟩ := append_own (bytes := 16) A t1 t2 (by omega) (by omega)
  have n02 := s2.1
  have s02 := S.trans s2
  have hzK : K.next ≤ z := by omega
  generalize hff : u.objects[jo].fields = ff at *
  obtain ⟨K1, e3, n3, p3, a3⟩ := (ou.keep s02).r4.put (i := jo) (o := 1) hjo (by omega) (.slice (some (z, 0)) 2 ff.length cl)
  have kp1 : ∀ w, w < K.next → w ≠ x4 → K1.get w = K.get w := fun w w1 w2 => by rw [p3 w w2, s02.gt w1]
  have az := a2.keep (H' := K1) (by omega) (p3 z (by omega))
  have ld4 : ∀ G : AHeap, Arr G x4 (setAt k4 (jo * 2 + 1) [.slice (some (z, 0)) 2 ff.length cl]) (fun _ => False) → loadA G x4 (jo * 2 + 1) 1 = some [.slice (some (z, 0)) 2 ff.length cl] := fun G hG => by
   have hle : (jo + 1) * 2 ≤ u.objects.length * 2 := Nat.mul_le_mul_right _ hjo
   have hk4 := ou.r4.l
   have := hG.rd.one (j := jo * 2 + 1) (by rw [setAt_one (by omega), if_pos rfl])
   rwa [Nat.zero_add] at this
  have ld1 := ld4 K1 a3
  simp -implicitDefEqProofs only [Int.reduceBEq, eS, ld, e2, e3, ld1, Bool.false_eq_true, go_sem]
  refine WP_mono (Q := fun ex fr H' => ex = .exit 3 ∧ fr.get 4 = some (.ptr (some (H.next, 0))) ∧ fr.get 8 = some (.ptr (some (H.next + 1, 0))) ∧ ∃ cz, Arr H' x4 (setAt k4 (jo * 2 + 1) [.slice (some (z, 0)) 2 ff.length cl]) (fun _ => False) ∧ Arr H' z cz (fun _ => False) ∧ cz.length = ff.length * 2 ∧ (∀ j, j < ff.length → (cz.drop (j * 2)).take 2 = prC ((v7 : Int), at')) ∧ H'.next = K1.next ∧ ∀ w, w < K.next → w ≠ x4 → H'.get w = K.get w) ?_ (WP_loop (fun m fr H' => fr.get 2 = some (.int .i64 at') ∧ fr.get 3 = some (.int .i64 n) ∧ fr.get 4 = some (.ptr (some (H.next, 0))) ∧ fr.get 8 = some (.ptr (some (H.next + 1, 0))) ∧ fr.get 10 = some (.ptr (some (x4, jo * 2))) ∧ fr.get 211 = some (.int .i64 (ff.length : Int)) ∧ ∃ (i : Nat) (cz : List AV), m = ff.length - i ∧ i ≤ ff.length ∧ fr.get 212 = some (.int .i64 (i : Int)) ∧ Arr H' x4 (setAt k4 (jo * 2 + 1) [.slice (some (z, 0)) 2 ff.length cl]) (fun _ => False) ∧ Arr H' z cz (fun _ => False) ∧ cz.length = ff.length * 2 ∧ (∀ j, j < i → (cz.drop (j * 2)).take 2 = prC ((v7 : Int), at')) ∧ H'.next = K1.next ∧ ∀ w, w < K.next → w ≠ x4 → H'.get w = K.get w) ff.length ?_ ?_)
  rotate_left
  ·simp -implicitDefEqProofs only [hn1, go_sem]
   exact ⟨0, cs, rfl, by omega, rfl, a3, az, t2, fun j hj => by omega, kp1⟩
  ·rintro m fr L ⟨g2', g3', g4', g8', g10', g211, i, cz, hm, hi, g212, ax, az, hcz, hj, hnx, kpL⟩
   by_cases hlt : (i : Int) < (ff.length : Int)
   rotate_left
   ·obtain rfl : i = ff.length := by omega
    simp -implicitDefEqProofs only [g2', g3', g4', g8', g10', g211, g212, hlt, Bool.false_eq_true, go_sem]
    exact ⟨cz, ax, az, hcz, hj, hnx, kpL⟩
   have i0 : (0 : Int) ≤ (i : Int) := by omega
   have lx := ld4 L ax
   have hle : (i + 1) * 2 ≤ ff.length * 2 := Nat.mul_le_mul_right _ (by omega)
   obtain ⟨L2, e5, n5, a5, p5⟩ := az.store (o := i * 2) (vs := [.int .i64 (v7 : Int), .int .i64 at']) (by simp; omega) rfl
   have p5' : ∀ w, w ≠ z → L2.get w = L.get w := fun w hw => p5 w hw (fun h => h)
   have hw1 : IntKind.i64.wrap ((i : Int) + 1) = ((i + 1 : Nat) : Int) := by rw [wrap64 (by omega) (by omega)]; omega
   simp -implicitDefEqProofs only [g2', g3', g4', g8', g10', g211, g212, hlt, i0, lx, b7, e5, hw1, ↓WP_seq, ↓WP_skip, ↓WP_region, ↓WP_dregion, ↓WP_cond, ↓WP_block, ↓WP_exit, ↓WP_ret, ↓OW_nil, ↓OW_cons, ↓DW_nil, ↓DW_cons, ↓XW_call, XW, exA, KO_eq, OptK_some, EvK_some, GW2_true, GW2_false, KS_normal, KS_ret, KS_exit, KB_normal, KB_ret, KB_exit, CP2_bool, RP_ret, putA_some, putA_none, ev_t, ev_c, evs, evo, wantA, initA, resA, Tr.get_set, vl, chkOk, cond_true, cond_false, Nat.add_zero, Nat.mul_one, Nat.one_mul, Nat.zero_add, Nat.zero_mul, aggOf, pInt, binA, unA, intA, beq_true, beq_false, Bool.not_true, Bool.not_false, Bool.not_eq_true, and_self, and_true, true_and, ↓reduceIte, reduceIte, Nat.reduceEqDiff, Nat.succ_ne_self, Nat.reduceAdd, Nat.reduceMul, Nat.reduceSub, Nat.reduceBEq, Nat.reduceLT, Nat.reduceLeDiff, Int.cast_ofNat_Int, Int.reduceToNat, Int.reduceLT, Int.reduceLE, Int.reduceGE, Int.reduceGT, Int.reduceEq, Int.reduceNe, Int.reduceAdd, Int.reduceSub, Int.reduceNeg, decide_true, decide_false, Int.toNat_natCast, reduceCtorEq, List.nil_append, List.cons_append, AV.boxy, AV.cells, List.length_cons, List.length_nil, Nat.beq_refl, AOp.cl, ↓OW_guard, ↓DW_guard, KDW_0, KDW_1, KDW_2, OWskip_eq, DWskip_eq, fillA, setAt, DChk, DAt, stepA, ble_dec, beq_dec, Bool.and_self, Bool.and_true, Bool.true_and, Bool.and_false, Bool.false_and, List.take_succ_cons, List.take_zero, List.drop_succ_cons, List.drop_zero, List.take_nil, List.drop_nil, List.append_nil, eqAV, eqAVL, BEq.rfl, sameS, Option.map, Option.isNone, wrap64, gt_iff_lt, ge_iff_le, Int.lt_irrefl, Int.le_refl]
   refine ⟨ff.length - (i + 1), by omega, i + 1, _, rfl, by omega, rfl, ax.keep (by omega) (p5' _ (by omega)), a5, by rw [setAt_len2 (by omega)]; exact hcz, fun j hj' => ?_, by omega, fun w w1 w2 => by rw [p5' w (by omega), kpL w w1 w2]⟩
   rw [chunk_set2 (by omega)]
   by_cases hji : j = i
   ·rw [if_pos hji]; rfl
   ·rw [if_neg hji]; exact hj j (by omega)
  rintro ex fr L ⟨rfl, g4', g8', cz, ax, az, hcz, hj, hnx, kpL⟩
  have hrl : (List.replicate ff.length ((v7 : Int), at')).length = ff.length := List.length_replicate
  obtain ⟨f1, K4, f2, f3, f4, f5⟩ := setO L 1 (.slice (some (z, 0)) 2 ff.length cl) ⟨u.objects[jo].cls, List.replicate ff.length ((v7 : Int), at')⟩ (by omega) kpL ax.rd (by omega) ((az.rd.stE (lo := H.next + 2) (E := PrE) (xs := List.replicate ff.length ((v7 : Int), at')) (by omega) hrl.symm (by rw [hrl]; exact hcz) (by rw [hrl]; unfold maxLen; omega) fun j hj' => St.of fun G _ => ⟨by rw [hj j (by rw [hrl] at hj'; exact hj'), List.getElem_replicate], by rw [List.getElem_replicate]; exact ⟨by unfold I64; omega, ha⟩⟩).map fun G hG => ⟨_, rfl, hO1, hG⟩)
  have := szO ⟨u.objects[jo].cls, List.replicate ff.length ((v7 : Int), at')⟩ (by rw [hrl]; omega)
  simp -implicitDefEqProofs only [g4', g8', f1, f2, f3, Bool.false_eq_true, go_sem]
  exact ⟨_, _, rfl, f4, this.1, this.2, f5⟩
 ·-- more objects
  obtain ⟨v1', h1', b1'⟩ := and_le n 1 (by decide) (by decide)
  have wq : IntKind.i64.wrap (40 + (v1' : Int)) = ((40 + v1' : Nat) : Int) := by rw [wrap64 (by omega) (by omega)]; omega
  simp -implicitDefEqProofs only [Int.reduceBEq, Bool.false_eq_true, go_sem]
  refine WP_mono (Q := fun ex fr H' => ex = .exit 1 ∧ fr.get 4 = some (.ptr (some (H.next, 0))) ∧ fr.get 8 = some (.ptr (some (H.next + 1, 0))) ∧ ∃ (os : List UObj) (x : Nat) (c : Bool) (cs : List AV), 1 ≤ os.length ∧ os.length ≤ N + 2 ∧ (∀ o, o ∈ os → o.fields.length ≤ N) ∧ Gx H' 2 (.slice (some (x, 0)) 2 os.length c) os.length cs (fun z => x4 ≤ z ∧ z < H'.next) ∧ (∀ j (hj : j < os.length), ObE H os[j] ((cs.drop (j * 2)).take 2)) ∧ Arr H' H.next [.slice (some (x1, 0)) 1 u.names.length c1, .slice (some (x2, 0)) 4 u.classes.length c2, .slice (some (x3, 0)) 4 u.methods.length c3, .slice (some (x, 0)) 2 os.length c, .int .i64 u.main] (fun _ => False) ∧ K.next ≤ H'.next ∧ ∀ z, z < x4 → z ≠ H.next → H'.get z = K.get z) ?_ (WP_loop (fun m fr H' => fr.get 3 = some (.int .i64 n) ∧ fr.get 4 = some (.ptr (some (H.next, 0))) ∧ fr.get 8 = some (.ptr (some (H.next + 1, 0))) ∧ ∃ (os : List UObj) (x : Nat) (c : Bool) (cs : List AV), m = 41 - os.length ∧ 1 ≤ os.length ∧ os.length ≤ N + 2 ∧ (∀ o, o ∈ os → o.fields.length ≤ N) ∧ Gx H' 2 (.slice (some (x, 0)) 2 os.length c) os.length cs (fun z => x4 ≤ z ∧ z < H'.next) ∧ (∀ j (hj : j < os.length), ObE H os[j] ((cs.drop (j * 2)).take 2)) ∧ Arr H' H.next [.slice (some (x1, 0)) 1 u.names.length c1, .slice (some (x2, 0)) 4 u.classes.length c2, .slice (some (x3, 0)) 4 u.methods.length c3, .slice (some (x, 0)) 2 os.length c, .int .i64 u.main] (fun _ => False) ∧ K.next ≤ H'.next ∧ ∀ z, z < x4 → z ≠ H.next → H'.get z = K.get z) (41 - u.objects.length) ?_ ?_)
  rotate_left
  ·simp -implicitDefEqProofs only [hn1, go_sem]
   refine ⟨u.objects, x4, c4, k4, rfl, g3, by omega, fun o ho => hs.of o ho, ?_, ou.r4.e, ou.box, Nat.le_refl _, fun _ _ _ => trivial⟩
   obtain ⟨y1, c, par, y2, y3, y4⟩ := ou.r4.a
   exact ⟨ou.r4.l, x4, c4, rfl, ⟨Nat.le_refl _, y1⟩, y1, c, par, y2, y3, fun z hz => (y4 z hz).elim⟩
  ·rintro m fr G ⟨g3', g4', g8', os, x, c, cs, hm, ho1, hoN, hof, gx, hoe, ab, hGn, kpG⟩
   have lb : loadA G H.next 3 1 = some [.slice (some (x, 0)) 2 os.length c] := by have := ab.rd.one (j := 3) rfl; rwa [Nat.zero_add] at this
   by_cases hlt : (os.length : Int) < ((40 + v1' : Nat) : Int)
   rotate_left
   ·simp -implicitDefEqProofs only [g3', g4', g8', lb, b1', wq, hlt, Bool.false_eq_true, ↓WP_seq, ↓WP_skip, ↓WP_region, ↓WP_dregion, ↓WP_cond, ↓WP_block, ↓WP_exit, ↓WP_ret, ↓OW_nil, ↓OW_cons, ↓DW_nil, ↓DW_cons, ↓XW_call, XW, exA, KO_eq, OptK_some, EvK_some, GW2_true, GW2_false, KS_normal, KS_ret, KS_exit, KB_normal, KB_ret, KB_exit, CP2_bool, RP_ret, putA_some, putA_none, ev_t, ev_c, evs, evo, wantA, initA, resA, Tr.get_set, vl, chkOk, cond_true, cond_false, Nat.add_zero, Nat.mul_one, Nat.one_mul, Nat.zero_add, Nat.zero_mul, aggOf, pInt, binA, unA, intA, beq_true, beq_false, Bool.not_true, Bool.not_false, Bool.not_eq_true, and_self, and_true, true_and, ↓reduceIte, reduceIte, Nat.reduceEqDiff, Nat.succ_ne_self, Nat.reduceAdd, Nat.reduceMul, Nat.reduceSub, Nat.reduceBEq, Nat.reduceLT, Nat.reduceLeDiff, Int.cast_ofNat_Int, Int.reduceToNat, Int.reduceLT, Int.reduceLE, Int.reduceGE, Int.reduceGT, Int.reduceEq, Int.reduceNe, Int.reduceAdd, Int.reduceSub, Int.reduceNeg, decide_true, decide_false, Int.toNat_natCast, reduceCtorEq, List.nil_append, List.cons_append, AV.boxy, AV.cells, List.length_cons, List.length_nil, Nat.beq_refl, AOp.cl, ↓OW_guard, ↓DW_guard, KDW_0, KDW_1, KDW_2, OWskip_eq, DWskip_eq, fillA, setAt, DChk, DAt, stepA, ble_dec, beq_dec, Bool.and_self, Bool.and_true, Bool.true_and, Bool.and_false, Bool.false_and, List.take_succ_cons, List.take_zero, List.drop_succ_cons, List.drop_zero, List.take_nil, List.drop_nil, List.append_nil, eqAV, eqAVL, BEq.rfl, sameS, Option.map, Option.isNone, wrap64, gt_iff_lt, ge_iff_le, Int.lt_irrefl, Int.le_refl]
    exact ⟨os, x, c, cs, ho1, hoN, hof, gx, hoe, ab, hGn, kpG⟩
   obtain ⟨w, hw1, hw2, hw3⟩ := hoe 0 (by omega)
   obtain ⟨wp, wq', wr, rfl, -⟩ := hw3.shape
   have l0 : loadA G x 0 2 = some [.int .i64 os[0].cls, .slice wp wq' os[0].fields.length wr] := by
    obtain ⟨hl, y, cl, he, hp, ay⟩ := gx
    cases he
    rcases ay.rd.part (0 * 2) 2 with hr | hr
    ·rw [hw1] at hr
     exact hr.load rfl
    ·omega
   have hlo0 : (0 : Int) < (os.length : Int) := by omega
   have hBn := ab.1
   obtain ⟨G2, e2, n2, ch, gx2⟩ := gx.push (bytes := 32) (fun z hz => hz.2) (ys := [.int .i64 os[0].cls, .slice wp wq' os[0].fields.length wr]) rfl (by omega) (by omega)
   have hub : ∀ z, ub (.slice (some (x, 0)) 2 os.length c) = some z → x4 ≤ z := fun z hz => by
    obtain ⟨hl, y, cl, he, hp, ay⟩ := gx
    cases he
    cases c with
    | true => cases hz
    | false => cases hz; exact hp.1
   have S := Chg.newRow G [.int .i64 os[0].cls, .slice wp wq' os[0].fields.length wr]
   have lbn : loadA (G.newRow [.int .i64 os[0].cls, .slice wp wq' os[0].fields.length wr]) H.next 3 1 = some [.slice (some (x, 0)) 2 os.length c] := by rw [S.ld hBn, lb]
   have ab2 := ab.keep (H' := G2) (by omega) (ch.keep hBn fun e => by have := hub _ e; omega)
   obtain ⟨G3, e3, n3, ab3, p3⟩ := ab2.store (o := 3) (vs := [.slice (some (G.next + 1, 0)) 2 (os.length + 1) false]) (cs' := [.slice (some (x1, 0)) 1 u.names.length c1, .slice (some (x2, 0)) 4 u.classes.length c2, .slice (some (x3, 0)) 4 u.methods.length c3, .slice (some (G.next + 1, 0)) 2 (os.length + 1) false, .int .i64 u.main]) (by simp) rfl
   have p3' : ∀ z, z ≠ H.next → G3.get z = G2.get z := fun z hz => p3 z hz (fun h => h)
   have hl2 : (os ++ [os[0]]).length = os.length + 1 := by simp
   simp -implicitDefEqProofs only [g3', g4', g8', lb, lbn, b1', wq, hlt, l0, hlo0, e2, e3, ↓WP_seq, ↓WP_skip, ↓WP_region, ↓WP_dregion, ↓WP_cond, ↓WP_block, ↓WP_exit, ↓WP_ret, ↓OW_nil, ↓OW_cons, ↓DW_nil, ↓DW_cons, ↓XW_call, XW, exA, KO_eq, OptK_some, EvK_some, GW2_true, GW2_false, KS_normal, KS_ret, KS_exit, KB_normal, KB_ret, KB_exit, CP2_bool, RP_ret, putA_some, putA_none, ev_t, ev_c, evs, evo, wantA, initA, resA, Tr.get_set, vl, chkOk, cond_true, cond_false, Nat.add_zero, Nat.mul_one, Nat.one_mul, Nat.zero_add, Nat.zero_mul, aggOf, pInt, binA, unA, intA, beq_true, beq_false, Bool.not_true, Bool.not_false, Bool.not_eq_true, and_self, and_true, true_and, ↓reduceIte, reduceIte, Nat.reduceEqDiff, Nat.succ_ne_self, Nat.reduceAdd, Nat.reduceMul, Nat.reduceSub, Nat.reduceBEq, Nat.reduceLT, Nat.reduceLeDiff, Int.cast_ofNat_Int, Int.reduceToNat, Int.reduceLT, Int.reduceLE, Int.reduceGE, Int.reduceGT, Int.reduceEq, Int.reduceNe, Int.reduceAdd, Int.reduceSub, Int.reduceNeg, decide_true, decide_false, Int.toNat_natCast, reduceCtorEq, List.nil_append, List.cons_append, AV.boxy, AV.cells, List.length_cons, List.length_nil, Nat.beq_refl, AOp.cl, ↓OW_guard, ↓DW_guard, KDW_0, KDW_1, KDW_2, OWskip_eq, DWskip_eq, fillA, setAt, DChk, DAt, stepA, ble_dec, beq_dec, Bool.and_self, Bool.and_true, Bool.true_and, Bool.and_false, Bool.false_and, List.take_succ_cons, List.take_zero, List.drop_succ_cons, List.drop_zero, List.take_nil, List.drop_nil, List.append_nil, eqAV, eqAVL, BEq.rfl, sameS, Option.map, Option.isNone, wrap64, gt_iff_lt, ge_iff_le, Int.lt_irrefl, Int.le_refl]
   refine ⟨41 - (os.length + 1), by omega, os ++ [os[0]], G.next + 1, false, cs ++ [.int .i64 os[0].cls, .slice wp wq' os[0].fields.length wr], by rw [hl2], by omega, by omega, fun o ho => ?_, ?_, fun j hj => ?_, by rw [hl2]; exact ab3, by omega, fun z z1 z2 => by rw [p3' z z2, ch.keep (by omega) (fun e => by have := hub _ e; omega), kpG z z1 z2]⟩
   ·rcases List.mem_append.1 ho with ho | ho
    ·exact hof o ho
    ·obtain rfl : o = os[0] := by simpa using ho
     exact hof _ (List.getElem_mem _)
   ·rw [hl2]
    exact (gx2.keep (H' := G3) (by omega) fun z hz _ => p3' z (by omega)).mono fun z hz => by omega
   ·have hcl := gx.1
    by_cases hlt' : j < os.length
    ·have hle : (j + 1) * 2 ≤ os.length * 2 := Nat.mul_le_mul_right _ (by omega)
     rw [List.drop_append_of_le_length (by omega), List.take_append_of_le_length (by simp; omega), List.getElem_append_left hlt']
     exact hoe j hlt'
    ·obtain rfl : j = os.length := by omega
     rw [← hcl, List.drop_left, List.getElem_append_right (Nat.le_refl _)]
     simp only [Nat.sub_self, List.getElem_cons_zero]
     exact ⟨_, rfl, hw2, hw3⟩
  rintro ex fr G ⟨rfl, g4', g8', os, x, c, cs, ho1, hoN, hof, gx, hoe, ab, hGn, kpG⟩
  have hsm := ou.sm.1
  obtain ⟨hcl, y, cl, he, hp, ay⟩ := gx
  cases he
  obtain ⟨f1, K2, f2, f3, f4, f5⟩ := fin_unit (u := ⟨u.names, u.classes, u.methods, os, u.main⟩) (Nat.le_refl _) (Sm.of (by omega) fun z hz => by rw [kpG z (by omega) (by omega), ou.sm.gt hz]) ab (ou.res.keep (by omega) (kpG _ (by omega) (by omega))) rfl fun G' ga gb gc => ⟨_, _, _, _, rfl, hmn, ou.st1 (K' := G) (by omega) (kpG _ (by omega) (by omega)) G' ga gb gc, ou.st2 (K' := G) (by omega) (kpG _ (by omega) (by omega)) G' ga gb gc, ou.st3 (K' := G) (by omega) (kpG _ (by omega) (by omega)) G' ga gb gc, ay.rd.stE (by omega) rfl hcl (by unfold maxLen; omega) (fun j hj => St.of fun K' s => MonoE.ob _ _ _ _ (hoe j hj) s) G' ga gb gc⟩
  simp -implicitDefEqProofs only [g4', g8', f1, f2, f3, Bool.false_eq_true, go_sem]
  exact ⟨_, _, rfl, f4, ⟨sm2.n, sm2.c, sm2.m, hoN, sm2.cb, sm2.ml, sm2.mc, fun o ho => by have := hof o ho; omega⟩, ⟨g1, g2, ho1⟩, f5⟩
set_option maxHeartbeats 4000000
def preA (s : Nat) (v k : AV) : Option AV := match v with
 | .slice (some (b, i)) s' len clip => bif s'.beq s then slA b i s len clip none (some k) none else none
 | .slice none s' len clip => (match slA 0 0 s len clip none (some k) none with | some (.slice _ _ n _) => some (.slice none s n true) | _ => none)
 | _ => none
def SlP (s : Nat) (H : AHeap) : Option AV → Option AV → Option (AV × AHeap)
 | some v, some k => (match preA s v k with | some w => some (w, H) | none => none)
 | _, _ => none
theorem SlP_some {s : Nat} {H : AHeap} {v k : AV} : SlP s H (some v) (some k) = (match preA s v k with | some w => some (w, H) | none => none) := rfl
theorem exA_slP {call : Rec} {ms : Meth} {fr : AFr} {H : AHeap} {s : Nat} {x hi : AOpnd} : exA call ms (.slSlice s x none (some hi) none) fr H = SlP s H (fr.ev x) (fr.ev hi) := by
 simp only [exA, evo]
 cases h1 : fr.ev x with
 | none => rfl
 | some v =>
  cases h2 : fr.ev hi with
  | none => cases v <;> rfl
  | some k =>
   cases v with
   | slice a s' len clip =>
    cases a with
    | none => simp only [SlP, preA]; cases slA 0 0 s len clip none (some k) none with
     | none => rfl
     | some w => cases w <;> rfl
    | some p =>
     obtain ⟨b, i⟩ := p
     simp only [SlP, preA]
     cases s'.beq s <;> rfl
   | _ => rfl
theorem stepA_slP {call : Rec} {ms : Meth} {d : Option Nat} {fr : AFr} {H : AHeap} {s : Nat} {x hi : AOpnd} : stepA call ms ⟨d, .slSlice s x none (some hi) none, none⟩ fr H = SlP s H (fr.ev x) (fr.ev hi) := exA_slP (call := call) (ms := ms)
theorem SlE.few {α : Type} {E : Rep α} {s : Nat} {H : AHeap} {xs : List α} {v : AV} (h : SlE E s H xs [v]) {k : Nat} (hk : k ≤ xs.length) : ∃ w, preA s v (.int .i64 (k : Int)) = some w ∧ SlE E s H (xs.take k) [w] := by
 obtain ⟨a, s0, cl, rfl, hs⟩ := h.shape
 cases a with
 | none =>
  have h0 : xs.length = 0 := by
   by_cases h0 : xs.length = 0
   ·exact h0
   ·obtain ⟨x, o, l, e, -⟩ := h.at (i := 0) (by omega)
    cases e
  obtain rfl : k = 0 := by omega
  have hx : xs = [] := List.eq_nil_of_length_eq_zero h0
  subst hx
  exact ⟨.slice none s 0 true, rfl, ⟨none, s, true, rfl, .inl rfl, Nat.zero_le _, fun h => absurd rfl h⟩⟩
 | some p =>
  obtain ⟨x, o⟩ := p
  obtain rfl : s0 = s := by rcases hs with e | e; cases e; exact e
  obtain ⟨h1, h2⟩ := h.pre hk
  refine ⟨_, ?_, h2⟩
  simp only [preA, Nat.beq_refl, cond_true]
  exact h1
theorem min_int (n m : Nat) : mnL false (.int .i64 (n : Int)) [.int .i64 (m : Int)] = some (.int .i64 ((min n m : Nat) : Int)) := by
 simp only [mnL, mnA]
 by_cases h : (m : Int) < (n : Int)
 ·rw [Nat.min_eq_right (by omega)]; simp [h]
 ·rw [Nat.min_eq_left (by omega)]; simp [h]
def fewU (u : UUnit) : UUnit := ⟨u.names.take (min u.names.length 8), u.classes.take (min u.classes.length 5), u.methods.take (min u.methods.length 4), u.objects.take (min u.objects.length 6), u.main⟩
theorem c_few {H : AHeap} {u : UUnit} {cu : List AV} (hu : UnE H u cu) : CW MN 15 [.agg cu] H fun w H' => ∃ cu', w = .agg cu' ∧ UnE H' (fewU u) cu' ∧ Sm H H' := by
 refine CW_of (fn := af15) rfl ?_
 dsimp only [af15, qm, q, qG, qn, qi, qb, qB, qk, qc, qo, qg, qv, qr]
 obtain ⟨v1, v2, v3, v4, rfl, hmn, q1, q2, q3, q4⟩ := hu
 obtain ⟨w1, p1, t1⟩ := q1.few (Nat.min_le_left u.names.length 8)
 obtain ⟨w2, p2, t2⟩ := q2.few (Nat.min_le_left u.classes.length 5)
 obtain ⟨w3, p3, t3⟩ := q3.few (Nat.min_le_left u.methods.length 4)
 obtain ⟨w4, p4, t4⟩ := q4.few (Nat.min_le_left u.objects.length 6)
 have m1 := min_int u.names.length 8
 have m2 := min_int u.classes.length 5
 have m3 := min_int u.methods.length 4
 have m4 := min_int u.objects.length 6
 simp only [Int.cast_ofNat_Int] at m1 m2 m3 m4
 have s1 := Chg.newRow H [v1, v2, v3, v4, iv u.main]
 have b1 := Arr.newRow H [v1, v2, v3, v4, iv u.main] fun _ => False
 have hn1 : (H.newRow [v1, v2, v3, v4, iv u.main]).next = H.next + 1 := rfl
 generalize eH1 : H.newRow [v1, v2, v3, v4, iv u.main] = H1 at s1 b1 hn1
 have s2 := Chg.newRow H1 [.slice none 1 0 true, .slice none 1 0 true, .slice none 1 0 true, .slice none 1 0 true, .int .i64 0]
 have r2 := Arr.newRow H1 [.slice none 1 0 true, .slice none 1 0 true, .slice none 1 0 true, .slice none 1 0 true, .int .i64 0] fun _ => False
 have hn2 : (H1.newRow [.slice none 1 0 true, .slice none 1 0 true, .slice none 1 0 true, .slice none 1 0 true, .int .i64 0]).next = H1.next + 1 := rfl
 generalize eH2 : H1.newRow [.slice none 1 0 true, .slice none 1 0 true, .slice none 1 0 true, .slice none 1 0 true, .int .i64 0] = H2 at s2 r2 hn2
 have b2 := b1.sm s2
 have s12 := s1.trans s2
 -- the stores
 obtain ⟨K1, e1, n1, a1, g1⟩ := b2.store (o := 0) (vs := [w1]) (cs' := [w1, v2, v3, v4, iv u.main]) (by simp) rfl
 obtain ⟨K2, e2, n2, a2, g2⟩ := a1.store (o := 1) (vs := [w2]) (cs' := [w1, w2, v3, v4, iv u.main]) (by simp) rfl
 obtain ⟨K3, e3, n3, a3, g3⟩ := a2.store (o := 2) (vs := [w3]) (cs' := [w1, w2, w3, v4, iv u.main]) (by simp) rfl
 obtain ⟨K4, e4, n4, a4, g4⟩ := a3.store (o := 3) (vs := [w4]) (cs' := [w1, w2, w3, w4, iv u.main]) (by simp) rfl
 have gK : ∀ z, z ≠ H.next → K4.get z = H2.get z := fun z hz => by rw [g4 z hz (fun h => h), g3 z hz (fun h => h), g2 z hz (fun h => h), g1 z hz (fun h => h)]
 have sK : Sm H K4 := Sm.of (by omega) fun z hz => by rw [gK z (by omega), s12.gt hz]
 have r4 := r2.keep (H' := K4) (by omega) (gK _ (by omega))
 rw [hn1] at r4
 obtain ⟨f1, K5, f2, f3, f4, f5⟩ := fin_unit (u := fewU u) (Nat.le_refl _) sK a4 r4 rfl fun G _ _ sG => ⟨_, _, _, _, rfl, hmn, MonoE.enc.sl _ _ _ _ t1 sG, MonoE.cl.sl _ _ _ _ t2 sG, MonoE.me.sl _ _ _ _ t3 sG, MonoE.ob.sl _ _ _ _ t4 sG⟩
 have on : ∀ {G : AHeap} {cs : List AV} {j : Nat} {v : AV}, Arr G H.next cs (fun _ => False) → cs[j]? = some v → loadA G H.next j 1 = some [v] := fun h hj => by
  have := h.rd.one hj
  rwa [Nat.zero_add] at this
 have x00 := on b2 (j := 0) rfl
 have x10 := on b2 (j := 1) rfl
 have x11 := on a1 (j := 1) rfl
 have x20 := on b2 (j := 2) rfl
 have x21 := on a1 (j := 2) rfl
 have x22 := on a2 (j := 2) rfl
 have x30 := on b2 (j := 3) rfl
 have x31 := on a1 (j := 3) rfl
 have x32 := on a2 (j := 3) rfl
 have x33 := on a3 (j := 3) rfl
 obtain ⟨z1, z2, z3, rfl, -⟩ := q1.shape
 obtain ⟨z1', z2', z3', rfl, -⟩ := q2.shape
 obtain ⟨z4, z5, z6, rfl, -⟩ := q3.shape
 obtain ⟨z4', z5', z6', rfl, -⟩ := q4.shape
 obtain ⟨y1, y2, y3, rfl, -⟩ := t1.shape
 obtain ⟨y1', y2', y3', rfl, -⟩ := t2.shape
 obtain ⟨y4, y5, y6, rfl, -⟩ := t3.shape
 obtain ⟨y4', y5', y6', rfl, -⟩ := t4.shape
 simp only [iv] at eH1 f1 f2 f3
 simp -implicitDefEqProofs only [iv, ↓exA_slP, ↓stepA_slP, SlP_some, eH1, eH2, hn1, x00, x10, x11, x20, x21, x22, x30, x31, x32, x33, m1, m2, m3, m4, p1, p2, p3, p4, e1, e2, e3, e4, f1, f2, f3, go_sem]
 exact ⟨_, rfl, f4, f5⟩
set_option maxHeartbeats 4000000
theorem CpR.fld {H0 H' : AHeap} {u : UUnit} {cu : List AV} (h : CpR H0 H' u cu) {c k y : Int} (ho : u.objects = [⟨c, [(k, y)]⟩]) :
  ∃ v1 v2 v3 x z cl, cu = [v1, v2, v3, .slice (some (x, 0)) 2 1 false, iv u.main] ∧ x < H'.next ∧ z < H'.next ∧ H0.next ≤ x ∧ H0.next ≤ z ∧ loadA H' x 1 1 = some [.slice (some (z, 0)) 2 1 cl] ∧ ∀ (H1 : AHeap) (n : Int), Sm H' H1 → I64 k → I64 n → loadA H1 x 1 1 = some [.slice (some (z, 0)) 2 1 cl] ∧ ∃ H2, storeA H1 z 1 [.int .i64 n] = some H2 ∧ H2.next = H1.next ∧ UnE H2 ⟨u.names, u.classes, u.methods, [⟨c, [(k, n)]⟩], u.main⟩ cu ∧ ∀ w, w ≠ z → H2.get w = H1.get w := by
 obtain ⟨lo, H1, H2, H3, v1, v2, v3, v4, rfl, hm, l0, l1, s, o1, k1, g2, l2, k23, g3, k3, g4, m2, m3, m4⟩ := h
 rw [ho] at g4
 obtain ⟨cs, ⟨hl, ⟨s0, -, h0⟩ | ⟨x, rfl, hx, ax⟩⟩, he⟩ := g4
 ·cases h0
 obtain ⟨v, e1, hc, hmx, ⟨h0, -⟩ | ⟨z, cl, cz, rfl, hz, hzx, az, hzl, hzj⟩⟩ := he 0 (by simp)
 ·cases h0
 simp only [List.length_cons, List.length_nil, Nat.zero_add, Nat.one_mul, Nat.zero_mul, List.drop_zero, List.getElem_cons_zero] at *
 have hcs : cs = [iv c, .slice (some (z, 0)) 2 1 cl] := by rw [← e1, List.take_of_length_le (by omega)]
 subst hcs
 have hzx' : x ≠ z := fun e => hzx (by rw [e]; rfl)
 have hzc : cz = [iv k, iv y] := by
  have := (hzj 0 (by omega)).1
  simp only [Nat.zero_mul, List.drop_zero, List.getElem_cons_zero] at this
  rw [← List.take_of_length_le (i := 2) (l := cz) (by omega), this]; rfl
 subst hzc
 have n1 := k1.1; have n23 := k23.1; have n3 := k3.1
 have hxl := ax.1; have hzl' := az.1
 have lx := ax.rd.one (j := 1) rfl
 rw [Nat.zero_add] at lx
 refine ⟨v1, v2, v3, x, z, cl, rfl, hxl, hzl', by omega, by omega, lx, fun G n sG hk hn => ?_⟩
 obtain ⟨G2, e2, nn, a2, p2⟩ := (az.sm sG).store (o := 1) (vs := [.int .i64 n]) (cs' := [iv k, .int .i64 n]) (by simp) rfl
 have p2' : ∀ w, w ≠ z → G2.get w = G.get w := fun w hw => p2 w hw (fun h => h)
 have pG : ∀ w, w < H'.next → w ≠ z → G2.get w = H'.get w := fun w h1 h2 => by rw [p2' w h2, sG.gt h1]
 have hG := sG.1
 refine ⟨by rw [sG.ld hxl, lx], G2, e2, nn, ?_, p2'⟩
 refine ⟨v1, v2, v3, _, rfl, hm, (o1.kp (m := lo) (Nat.le_refl _) ⟨by omega, fun w h1 h2 => by rw [pG w (by omega) (by omega), k1.2 w h1 h2]⟩).slE, (g2.kp ClO.mono (m := H1.next) (Nat.le_refl _) ⟨by omega, fun w h1 h2 => by rw [pG w (by omega) (by omega), k3.2 w h1 (by omega), k23.2 w h1 h2]⟩).slE ClO.cl m2, (g3.kp MeO.mono (m := H1.next) (by omega) ⟨by omega, fun w h1 h2 => by rw [pG w (by omega) (by omega), k3.2 w h1 h2]⟩).slE MeO.me m3, ?_⟩
 have rx : Rd G2 x 0 [iv c, .slice (some (z, 0)) 2 1 cl] := ax.rd.keep (by omega) (pG x hxl hzx')
 refine ⟨_, _, _, rfl, .inr rfl, (show 1 ≤ maxLen by decide), fun _ => ⟨x, 0, _, rfl, rx, rfl, fun j hj => ?_⟩⟩
 obtain rfl : j = 0 := by simpa using hj
 refine ⟨_, rfl, hc, _, _, _, rfl, .inr rfl, (show 1 ≤ maxLen by decide), fun _ => ⟨z, 0, _, rfl, a2.rd, rfl, fun j hj => ?_⟩⟩
 obtain rfl : j = 0 := by simpa using hj
 exact ⟨rfl, hk, hn⟩
def unK : UUnit := ⟨[], [⟨[66], -1, 4, []⟩, ⟨[65], -1, 0, []⟩, ⟨[67], -1, 1, []⟩], [⟨0, 0, [], [3, 0, 14, 0]⟩], [⟨2, [(3, 5)]⟩], 0⟩
def unE : UUnit := ⟨[], [], [], [], 0⟩
theorem unK_r : unitP unK = 0 := by decide +kernel
theorem unE_r : unitP unE = 3 := by decide +kernel
theorem unK_f : uFindP unK 9 0 = -1 ∧ uFindP unK 2 0 = -1 := by decide +kernel
theorem unK_w : wordsP unK = 4 := by decide +kernel
theorem nilE {α : Type} {E : Rep α} {s : Nat} (H : AHeap) : SlE E s H [] [.slice none 1 0 true] := ⟨none, 1, true, rfl, .inl rfl, Nat.zero_le _, fun h => absurd rfl h⟩
theorem unE_e (H : AHeap) : UnE H unE [.slice none 1 0 true, .slice none 1 0 true, .slice none 1 0 true, .slice none 1 0 true, .int .i64 0] :=
 ⟨_, _, _, _, rfl, by simp [I64, unE], nilE H, nilE H, nilE H, nilE H⟩
theorem c_known15 (H : AHeap) : CW MN 14 [] H fun w H' => w = .bool true ∧ Sm H H' := by
 refine CW_of (fn := af14) rfl ?_
 dsimp only [af14, qm, q, qG, qn, qi, qb, qB, qk, qc, qo, qg, qv, qr]
 have sc := Chg.newRow H [.str [66], .int .i64 (-1), .int .i64 4, .slice none 1 0 true, .str [65], .int .i64 (-1), .int .i64 0, .slice none 1 0 true, .str [67], .int .i64 (-1), .int .i64 1, .slice none 1 0 true]
 have rc := Rd.newRow H [.str [66], .int .i64 (-1), .int .i64 4, .slice none 1 0 true, .str [65], .int .i64 (-1), .int .i64 0, .slice none 1 0 true, .str [67], .int .i64 (-1), .int .i64 1, .slice none 1 0 true]
 have nc : (H.newRow [.str [66], .int .i64 (-1), .int .i64 4, .slice none 1 0 true, .str [65], .int .i64 (-1), .int .i64 0, .slice none 1 0 true, .str [67], .int .i64 (-1), .int .i64 1, .slice none 1 0 true]).next = H.next + 1 := rfl
 generalize ec : H.newRow [.str [66], .int .i64 (-1), .int .i64 4, .slice none 1 0 true, .str [65], .int .i64 (-1), .int .i64 0, .slice none 1 0 true, .str [67], .int .i64 (-1), .int .i64 1, .slice none 1 0 true] = K1 at sc rc nc
 have sb := Chg.newRow K1 [.int .u8 3, .int .u8 0, .int .u8 14, .int .u8 0]
 have rb := Rd.newRow K1 [.int .u8 3, .int .u8 0, .int .u8 14, .int .u8 0]
 have nb : (K1.newRow [.int .u8 3, .int .u8 0, .int .u8 14, .int .u8 0]).next = K1.next + 1 := rfl
 generalize eb : K1.newRow [.int .u8 3, .int .u8 0, .int .u8 14, .int .u8 0] = K2 at sb rb nb
 have sm := Chg.newRow K2 [.int .i64 0, .int .i64 0, .slice none 1 0 true, .slice (some (K1.next, 0)) 1 4 true]
 have rm := Rd.newRow K2 [.int .i64 0, .int .i64 0, .slice none 1 0 true, .slice (some (K1.next, 0)) 1 4 true]
 have nm : (K2.newRow [.int .i64 0, .int .i64 0, .slice none 1 0 true, .slice (some (K1.next, 0)) 1 4 true]).next = K2.next + 1 := rfl
 generalize em : K2.newRow [.int .i64 0, .int .i64 0, .slice none 1 0 true, .slice (some (K1.next, 0)) 1 4 true] = K3 at sm rm nm
 have sf := Chg.newRow K3 [.int .i64 3, .int .i64 5]
 have rf := Rd.newRow K3 [.int .i64 3, .int .i64 5]
 have nf : (K3.newRow [.int .i64 3, .int .i64 5]).next = K3.next + 1 := rfl
 generalize ef : K3.newRow [.int .i64 3, .int .i64 5] = K4 at sf rf nf
 have so := Chg.newRow K4 [.int .i64 2, .slice (some (K3.next, 0)) 2 1 true]
 have ro := Rd.newRow K4 [.int .i64 2, .slice (some (K3.next, 0)) 2 1 true]
 have no : (K4.newRow [.int .i64 2, .slice (some (K3.next, 0)) 2 1 true]).next = K4.next + 1 := rfl
 generalize eo : K4.newRow [.int .i64 2, .slice (some (K3.next, 0)) 2 1 true] = K5 at so ro no
 obtain ⟨K6, e6, n6, s6, a6⟩ := store_own K5 [.slice none 1 0 true, .slice none 1 0 true, .slice none 1 0 true, .slice none 1 0 true, .int .i64 0] [.slice none 1 0 true, .slice (some (H.next, 0)) 4 3 true, .slice (some (K2.next, 0)) 4 1 true, .slice (some (K4.next, 0)) 2 1 true, .int .i64 0] rfl
 have un : UnE K6 unK [.slice none 1 0 true, .slice (some (H.next, 0)) 4 3 true, .slice (some (K2.next, 0)) 4 1 true, .slice (some (K4.next, 0)) 2 1 true, .int .i64 0] := by
  have rc' := rc.keep (H' := K6) (by omega) (by rw [s6.gt (by omega), so.gt (by omega), sf.gt (by omega), sm.gt (by omega), sb.gt (by omega)])
  have rb' := rb.keep (H' := K6) (by omega) (by rw [s6.gt (by omega), so.gt (by omega), sf.gt (by omega), sm.gt (by omega)])
  have rm' := rm.keep (H' := K6) (by omega) (by rw [s6.gt (by omega), so.gt (by omega), sf.gt (by omega)])
  have rf' := rf.keep (H' := K6) (by omega) (by rw [s6.gt (by omega), so.gt (by omega)])
  have ro' := ro.keep (H' := K6) (by omega) (by rw [s6.gt (by omega)])
  refine ⟨_, _, _, _, rfl, by simp [I64, unK], nilE _, ⟨_, _, _, rfl, .inr rfl, by decide, fun _ => ⟨_, 0, _, rfl, rc', rfl, fun j hj => ?_⟩⟩, ⟨_, _, _, rfl, .inr rfl, by decide, fun _ => ⟨_, 0, _, rfl, rm', rfl, fun j hj => ?_⟩⟩, ⟨_, _, _, rfl, .inr rfl, by decide, fun _ => ⟨_, 0, _, rfl, ro', rfl, fun j hj => ?_⟩⟩⟩
  ·have hj' : j < 3 := hj
   rcases (by omega : j = 0 ∨ j = 1 ∨ j = 2) with rfl | rfl | rfl <;> exact ⟨_, rfl, ⟨by simp [unK], by simp [unK]⟩, by simp [unK, I64], by simp [unK, I64], nilE _⟩
  ·obtain rfl : j = 0 := by have : j < 1 := hj; omega
   refine ⟨_, _, rfl, by simp [unK, I64], by simp [unK, I64], nilE _, _, _, _, rfl, .inr rfl, (show 4 ≤ maxLen by decide), fun _ => ⟨_, 0, _, rfl, rb', rfl, fun j hj => ?_⟩⟩
   have hj' : j < 4 := hj
   rcases (by omega : j = 0 ∨ j = 1 ∨ j = 2 ∨ j = 3) with rfl | rfl | rfl | rfl <;> exact ⟨rfl, by simp [unK, byOk]⟩
  ·obtain rfl : j = 0 := by have : j < 1 := hj; omega
   refine ⟨_, rfl, by simp [unK, I64], _, _, _, rfl, .inr rfl, (show 1 ≤ maxLen by decide), fun _ => ⟨_, 0, _, rfl, rf', rfl, fun j hj => ?_⟩⟩
   obtain rfl : j = 0 := by have : j < 1 := hj; omega
   exact ⟨rfl, by simp [unK, prOk, I64], by simp [unK, prOk, I64]⟩
 have h06 : Sm H K6 := ((((sc.trans sb).trans sm).trans sf).trans so).trans s6
 have all6 : loadA K6 K5.next 0 5 = some [.slice none 1 0 true, .slice (some (H.next, 0)) 4 3 true, .slice (some (K2.next, 0)) 4 1 true, .slice (some (K4.next, 0)) 2 1 true, .int .i64 0] := a6.rd.load rfl
 have bndK : BndU unK := by
  refine ⟨by decide, by decide, by decide, by decide, ?_, ?_, ?_, ?_⟩ <;> decide
 simp -implicitDefEqProofs only [ec, eb, em, ef, eo, e6, all6, go_sem]
 refine CW.mono (c_Copy un bndK) ?_
 rintro _ K7 ⟨cs, rfl, cp⟩
 obtain ⟨v1, v2, v3, x, z, cl, rfl, hx1, hz1, hx2, hz2, lx, hst⟩ := cp.fld (c := 2) (k := 3) (y := 5) rfl
 have s7 := cp.sm
 have un7 := cp.un
 obtain ⟨p1, q1, k1, rfl, -⟩ : ∃ p q k, v1 = .slice p q 0 k ∧ True := by
  obtain ⟨_, _, _, _, e, -, h, -⟩ := un7
  cases e
  obtain ⟨a, b, c, e, -⟩ := h.shape
  exact ⟨a, b, c, e, trivial⟩
 obtain ⟨p2, q2, k2, rfl, -⟩ : ∃ p q k, v2 = .slice p q 3 k ∧ True := by
  obtain ⟨_, _, _, _, e, -, -, h, -⟩ := un7
  cases e
  obtain ⟨a, b, c, e, -⟩ := h.shape
  exact ⟨a, b, c, e, trivial⟩
 obtain ⟨p3, q3, k3, rfl, -⟩ : ∃ p q k, v3 = .slice p q 1 k ∧ True := by
  obtain ⟨_, _, _, _, e, -, -, -, h, -⟩ := un7
  cases e
  obtain ⟨a, b, c, e, -⟩ := h.shape
  exact ⟨a, b, c, e, trivial⟩
 obtain ⟨K8, e8, n8, s8, a8⟩ := store_own K7 [.slice none 1 0 true, .slice none 1 0 true, .slice none 1 0 true, .slice none 1 0 true, .int .i64 0] [.slice p1 q1 0 k1, .slice p2 q2 3 k2, .slice p3 q3 1 k3, .slice (some (x, 0)) 2 1 false, iv unK.main] rfl
 obtain ⟨lx8, K9, e9, n9, un9, g9⟩ := hst K8 6 s8 (by simp [I64]) (by simp [I64])
 have n7 := s7.1
 have b3 := a8.rd.one (j := 3) rfl
 rw [Nat.zero_add] at b3
 have s69 : Sm K6 K9 := Sm.of (by omega) fun w hw => by rw [g9 w (by omega), s8.gt (by omega), s7.gt hw]
 have a9 := a8.keep (H' := K9) (by omega) (g9 _ (by omega))
 have u9 : ∀ {G : AHeap}, Sm K9 G → loadA G K5.next 0 5 = some [.slice none 1 0 true, .slice (some (H.next, 0)) 4 3 true, .slice (some (K2.next, 0)) 4 1 true, .slice (some (K4.next, 0)) 2 1 true, .int .i64 0] ∧ loadA G K7.next 0 5 = some [.slice p1 q1 0 k1, .slice p2 q2 3 k2, .slice p3 q3 1 k3, .slice (some (x, 0)) 2 1 false, .int .i64 0] ∧ UnE G unK [.slice none 1 0 true, .slice (some (H.next, 0)) 4 3 true, .slice (some (K2.next, 0)) 4 1 true, .slice (some (K4.next, 0)) 2 1 true, .int .i64 0] := fun sG => ⟨((a6.sm s69).sm sG).rd.load rfl, (a9.sm sG).rd.load rfl, MonoE.un _ _ _ _ un (s69.trans sG)⟩
 obtain ⟨u1, w1, r1⟩ := u9 (Chg.refl K9)
 have zm : iv unK.main = .int .i64 0 := rfl
 rw [zm] at e8
 simp -implicitDefEqProofs only [zm, e8, b3, lx8, e9, u1, Int.reduceBNe, Bool.false_eq_true, go_sem]
 refine CW.mono (c_unitRight r1) ?_
 rintro _ G1 ⟨rfl, t1⟩
 obtain ⟨u2, w2, r2⟩ := u9 t1
 simp -implicitDefEqProofs only [unK_r, u2, Int.reduceBEq, go_sem]
 refine CW.mono (c_unitRight (unE_e G1)) ?_
 rintro _ G2 ⟨rfl, t2⟩
 obtain ⟨u3, w3, r3⟩ := u9 (t1.trans t2)
 simp -implicitDefEqProofs only [unE_r, u3, Int.reduceBEq, go_sem]
 refine CW.mono (c_Find r3 (by simp [I64]) 0) ?_
 rintro _ G3 ⟨rfl, t3⟩
 obtain ⟨u4, w4, r4⟩ := u9 ((t1.trans t2).trans t3)
 simp -implicitDefEqProofs only [unK_f.1, u4, Int.reduceBEq, go_sem]
 refine CW.mono (c_Find r4 (by simp [I64]) 0) ?_
 rintro _ G4 ⟨rfl, t4⟩
 obtain ⟨u5, w5, r5⟩ := u9 (((t1.trans t2).trans t3).trans t4)
 simp -implicitDefEqProofs only [unK_f.2, u5, Int.reduceBEq, go_sem]
 refine CW.mono (c_Words r5) ?_
 rintro _ G5 ⟨rfl, t5⟩
 obtain ⟨u6, w6, r6⟩ := u9 ((((t1.trans t2).trans t3).trans t4).trans t5)
 simp -implicitDefEqProofs only [unK_w, u6, Int.reduceBEq, go_sem]
 refine CW.mono (c_Copy r6 bndK) ?_
 rintro _ G6 ⟨cs, rfl, cp6⟩
 have t6 := cp6.sm
 obtain ⟨u7, w7, r7⟩ := u9 (((((t1.trans t2).trans t3).trans t4).trans t5).trans t6)
 simp -implicitDefEqProofs only [u7, go_sem]
 refine CW.mono (c_Same r7 cp6.un) ?_
 rintro _ G7 ⟨rfl, t7⟩
 have t17 := ((((((t1.trans t2).trans t3).trans t4).trans t5).trans t6).trans t7)
 obtain ⟨u8, w8, r8⟩ := u9 t17
 have et : decide (unK = unK) = true := decide_eq_true rfl
 simp -implicitDefEqProofs only [et, u8, w8, go_sem]
 refine CW.mono (c_Same r8 (MonoE.un _ _ _ _ un9 t17)) ?_
 rintro _ G8 ⟨rfl, t8⟩
 obtain ⟨u10, w10, r10⟩ := u9 (t17.trans t8)
 have ef : decide (unK = ⟨unK.names, unK.classes, unK.methods, [⟨2, [(3, 6)]⟩], unK.main⟩) = false := by decide +kernel
 have s68 := s69.trans (t17.trans t8)
 have lu3 := (a6.sm s68).rd.one (j := 3) rfl
 rw [Nat.zero_add] at lu3
 have lo1 := (ro.keep (H' := G8) (by have := s68.1; omega) (by rw [s68.gt (by omega), s6.gt (by omega)])).one (j := 1) rfl
 rw [Nat.zero_add] at lo1
 have lf1 := (rf.keep (H' := G8) (by have := s68.1; omega) (by rw [s68.gt (by omega), s6.gt (by omega), so.gt (by omega)])).one (j := 1) rfl
 rw [Nat.zero_add] at lf1
 simp -implicitDefEqProofs only [ef, w8, u10, w10, lu3, lo1, lf1, u1, u2, u3, u4, u5, u6, u7, u8, Int.reduceBEq, go_sem]
 exact h06.trans s68
end Go.Proofs.YtbbjlbdmjikhbaaGreatDoor.AA
