/- The odd unit, few, known. -/
import Derived.Test.YtbbjlbdmjikhbaaGreatDoorKUniF
set_option linter.unusedSimpArgs false
set_option linter.unusedVariables false
namespace Go.Proofs.YtbbjlbdmjikhbaaGreatDoor.AA
open Go Go.RowKit
attribute [local go_sem ↓] WP_seq WP_skip WP_region WP_dregion WP_cond WP_block WP_exit WP_ret OW_nil OW_cons DW_nil DW_cons XW_call reduceIte OW_guard DW_guard
attribute [local go_sem] XW exA KO_eq OptK_some EvK_some GW2_true GW2_false KS_normal KS_ret KS_exit KB_normal KB_ret KB_exit CP2_bool RP_ret putA_some putA_none ev_t ev_c evs evo wantA initA resA Tr.get_set vl chkOk cond_true cond_false Nat.add_zero Nat.mul_one Nat.one_mul Nat.zero_add Nat.zero_mul aggOf pInt binA unA intA beq_true beq_false Bool.not_true Bool.not_false Bool.not_eq_true and_self and_true true_and reduceIte Nat.reduceEqDiff Nat.succ_ne_self Nat.reduceAdd Nat.reduceMul Nat.reduceSub Nat.reduceBEq Nat.reduceLT Nat.reduceLeDiff Int.cast_ofNat_Int Int.reduceToNat Int.reduceLT Int.reduceLE Int.reduceGE Int.reduceGT Int.reduceEq Int.reduceNe Int.reduceAdd Int.reduceSub Int.reduceNeg decide_true decide_false Int.toNat_natCast reduceCtorEq List.nil_append List.cons_append AV.boxy AV.cells List.length_cons List.length_nil Nat.beq_refl AOp.cl KDW_0 KDW_1 KDW_2 OWskip_eq DWskip_eq fillA setAt DChk DAt stepA ble_dec beq_dec Bool.and_self Bool.and_true Bool.true_and Bool.and_false Bool.false_and List.take_succ_cons List.take_zero List.drop_succ_cons List.drop_zero List.take_nil List.drop_nil List.append_nil eqAV eqAVL BEq.rfl sameS Option.map Option.isNone wrap64 gt_iff_lt ge_iff_le Int.lt_irrefl Int.le_refl
set_option maxRecDepth 100000
set_option maxHeartbeats 4000000
attribute [local irreducible] Tr.set
set_option maxHeartbeats 4000000
/-- A beginning of a slice, be it nil or not. -/
def preA (s : Nat) (v k : AV) : Option AV := match v with
  | .slice (some (b, i)) s' len clip => bif s'.beq s then slA b i s len clip none (some k) none else none
  | .slice none s' len clip => (match slA 0 0 s len clip none (some k) none with | some (.slice _ _ n _) => some (.slice none s n true) | _ => none)
  | _ => none
/-- No more than so many. -/
theorem SlE.few {α : Type} {E : Rep α} {s : Nat} {H : AHeap} {xs : List α} {v : AV} (h : SlE E s H xs [v]) {k : Nat} (hk : k ≤ xs.length) : ∃ w, preA s v (.int .i64 (k : Int)) = some w ∧ SlE E s H (xs.take k) [w] := by
  obtain ⟨a, s0, cl, rfl, hs⟩ := h.shape
  cases a with
  | none =>
    have h0 : xs.length = 0 := by
      by_cases h0 : xs.length = 0
      · exact h0
      · obtain ⟨x, o, l, e, -⟩ := h.at (i := 0) (by omega)
        cases e
    obtain rfl : k = 0 := by omega
    have hx : xs = [] := List.eq_nil_of_length_eq_zero h0
    subst hx
    exact ⟨.slice none s 0 true, rfl, ⟨none, s, true, rfl, .inl rfl, Nat.zero_le _, fun h => absurd rfl h⟩⟩
  | some p =>
    obtain ⟨x, o⟩ := p
    obtain rfl : s0 = s := by rcases hs with e | e; cases e; exact e
    obtain ⟨h1, h2⟩ := h.pre hk
    refine ⟨_, ?_, h2⟩
    simp only [preA, Nat.beq_refl, cond_true]
    exact h1
/-- The first of a program. -/
def fewU (u : UUnit) : UUnit := ⟨u.names.take (min u.names.length 8), u.classes.take (min u.classes.length 5), u.methods.take (min u.methods.length 4), u.objects.take (min u.objects.length 6), u.main⟩
set_option maxHeartbeats 4000000
/-- A number turned in the only object of a copy. -/
theorem CpR.fld {H0 H' : AHeap} {u : UUnit} {cu : List AV} (h : CpR H0 H' u cu) {c k y : Int} (ho : u.objects = [⟨c, [(k, y)]⟩]) :
    ∃ v1 v2 v3 x z cl, cu = [v1, v2, v3, .slice (some (x, 0)) 2 1 false, iv u.main] ∧ x < H'.next ∧ z < H'.next ∧ H0.next ≤ x ∧ H0.next ≤ z ∧ loadA H' x 1 1 = some [.slice (some (z, 0)) 2 1 cl] ∧ ∀ (H1 : AHeap) (n : Int), Sm H' H1 → I64 k → I64 n → loadA H1 x 1 1 = some [.slice (some (z, 0)) 2 1 cl] ∧ ∃ H2, storeA H1 z 1 [.int .i64 n] = some H2 ∧ H2.next = H1.next ∧ UnE H2 ⟨u.names, u.classes, u.methods, [⟨c, [(k, n)]⟩], u.main⟩ cu ∧ ∀ w, w ≠ z → H2.get w = H1.get w := by
  obtain ⟨lo, H1, H2, H3, v1, v2, v3, v4, rfl, hm, l0, l1, s, o1, k1, g2, l2, k23, g3, k3, g4, m2, m3, m4⟩ := h
  rw [ho] at g4
  obtain ⟨cs, ⟨hl, ⟨s0, -, h0⟩ | ⟨x, rfl, hx, ax⟩⟩, he⟩ := g4
  · cases h0
  obtain ⟨v, e1, hc, hmx, ⟨h0, -⟩ | ⟨z, cl, cz, rfl, hz, hzx, az, hzl, hzj⟩⟩ := he 0 (by simp)
  · cases h0
  simp only [List.length_cons, List.length_nil, Nat.zero_add, Nat.one_mul, Nat.zero_mul, List.drop_zero, List.getElem_cons_zero] at *
  have hcs : cs = [iv c, .slice (some (z, 0)) 2 1 cl] := by rw [← e1, List.take_of_length_le (by omega)]
  subst hcs
  have hzx' : x ≠ z := fun e => hzx (by rw [e]; rfl)
  have hzc : cz = [iv k, iv y] := by
    have := (hzj 0 (by omega)).1
    simp only [Nat.zero_mul, List.drop_zero, List.getElem_cons_zero] at this
    rw [← List.take_of_length_le (i := 2) (l := cz) (by omega), this]; rfl
  subst hzc
  have n1 := k1.1; have n23 := k23.1; have n3 := k3.1
  have hxl := ax.1; have hzl' := az.1
  have lx := ax.rd.one (j := 1) rfl
  rw [Nat.zero_add] at lx
  refine ⟨v1, v2, v3, x, z, cl, rfl, hxl, hzl', by omega, by omega, lx, fun G n sG hk hn => ?_⟩
  obtain ⟨G2, e2, nn, a2, p2⟩ := (az.sm sG).store (o := 1) (vs := [.int .i64 n]) (cs' := [iv k, .int .i64 n]) (by simp) rfl
  have p2' : ∀ w, w ≠ z → G2.get w = G.get w := fun w hw => p2 w hw (fun h => h)
  have pG : ∀ w, w < H'.next → w ≠ z → G2.get w = H'.get w := fun w h1 h2 => by rw [p2' w h2, sG.gt h1]
  have hG := sG.1
  refine ⟨by rw [sG.ld hxl, lx], G2, e2, nn, ?_, p2'⟩
  refine ⟨v1, v2, v3, _, rfl, hm, (o1.kp (m := lo) (Nat.le_refl _) ⟨by omega, fun w h1 h2 => by rw [pG w (by omega) (by omega), k1.2 w h1 h2]⟩).slE, (g2.kp ClO.mono (m := H1.next) (Nat.le_refl _) ⟨by omega, fun w h1 h2 => by rw [pG w (by omega) (by omega), k3.2 w h1 (by omega), k23.2 w h1 h2]⟩).slE ClO.cl m2, (g3.kp MeO.mono (m := H1.next) (by omega) ⟨by omega, fun w h1 h2 => by rw [pG w (by omega) (by omega), k3.2 w h1 h2]⟩).slE MeO.me m3, ?_⟩
  have rx : Rd G2 x 0 [iv c, .slice (some (z, 0)) 2 1 cl] := ax.rd.keep (by omega) (pG x hxl hzx')
  refine ⟨_, _, _, rfl, .inr rfl, (show 1 ≤ maxLen by decide), fun _ => ⟨x, 0, _, rfl, rx, rfl, fun j hj => ?_⟩⟩
  obtain rfl : j = 0 := by simpa using hj
  refine ⟨_, rfl, hc, _, _, _, rfl, .inr rfl, (show 1 ≤ maxLen by decide), fun _ => ⟨z, 0, _, rfl, a2.rd, rfl, fun j hj => ?_⟩⟩
  obtain rfl : j = 0 := by simpa using hj
  exact ⟨rfl, hk, hn⟩
def unK : UUnit := ⟨[], [⟨[66], -1, 4, []⟩, ⟨[65], -1, 0, []⟩, ⟨[67], -1, 1, []⟩], [⟨0, 0, [], [3, 0, 14, 0]⟩], [⟨2, [(3, 5)]⟩], 0⟩
def unE : UUnit := ⟨[], [], [], [], 0⟩
theorem unK_r : unitP unK = 0 := by decide +kernel
theorem unE_r : unitP unE = 3 := by decide +kernel
theorem unK_f : uFindP unK 9 0 = -1 ∧ uFindP unK 2 0 = -1 := by decide +kernel
theorem unK_w : wordsP unK = 4 := by decide +kernel
theorem nilE {α : Type} {E : Rep α} {s : Nat} (H : AHeap) : SlE E s H [] [.slice none 1 0 true] := ⟨none, 1, true, rfl, .inl rfl, Nat.zero_le _, fun h => absurd rfl h⟩
theorem unE_e (H : AHeap) : UnE H unE [.slice none 1 0 true, .slice none 1 0 true, .slice none 1 0 true, .slice none 1 0 true, .int .i64 0] :=
  ⟨_, _, _, _, rfl, by simp [I64, unE], nilE H, nilE H, nilE H, nilE H⟩
theorem c_known15 (H : AHeap) : CW MN 14 [] H fun w H' => w = .bool true ∧ Sm H H' := by
  refine CW_of (fn := af14) rfl ?_
  unfold af14
  have sc := Chg.newRow H [.str [66], .int .i64 (-1), .int .i64 4, .slice none 1 0 true, .str [65], .int .i64 (-1), .int .i64 0, .slice none 1 0 true, .str [67], .int .i64 (-1), .int .i64 1, .slice none 1 0 true]
  have rc := Rd.newRow H [.str [66], .int .i64 (-1), .int .i64 4, .slice none 1 0 true, .str [65], .int .i64 (-1), .int .i64 0, .slice none 1 0 true, .str [67], .int .i64 (-1), .int .i64 1, .slice none 1 0 true]
  have nc : (H.newRow [.str [66], .int .i64 (-1), .int .i64 4, .slice none 1 0 true, .str [65], .int .i64 (-1), .int .i64 0, .slice none 1 0 true, .str [67], .int .i64 (-1), .int .i64 1, .slice none 1 0 true]).next = H.next + 1 := rfl
  generalize ec : H.newRow [.str [66], .int .i64 (-1), .int .i64 4, .slice none 1 0 true, .str [65], .int .i64 (-1), .int .i64 0, .slice none 1 0 true, .str [67], .int .i64 (-1), .int .i64 1, .slice none 1 0 true] = K1 at sc rc nc
  have sb := Chg.newRow K1 [.int .u8 3, .int .u8 0, .int .u8 14, .int .u8 0]
  have rb := Rd.newRow K1 [.int .u8 3, .int .u8 0, .int .u8 14, .int .u8 0]
  have nb : (K1.newRow [.int .u8 3, .int .u8 0, .int .u8 14, .int .u8 0]).next = K1.next + 1 := rfl
  generalize eb : K1.newRow [.int .u8 3, .int .u8 0, .int .u8 14, .int .u8 0] = K2 at sb rb nb
  have sm := Chg.newRow K2 [.int .i64 0, .int .i64 0, .slice none 1 0 true, .slice (some (K1.next, 0)) 1 4 true]
  have rm := Rd.newRow K2 [.int .i64 0, .int .i64 0, .slice none 1 0 true, .slice (some (K1.next, 0)) 1 4 true]
  have nm : (K2.newRow [.int .i64 0, .int .i64 0, .slice none 1 0 true, .slice (some (K1.next, 0)) 1 4 true]).next = K2.next + 1 := rfl
  generalize em : K2.newRow [.int .i64 0, .int .i64 0, .slice none 1 0 true, .slice (some (K1.next, 0)) 1 4 true] = K3 at sm rm nm
  have sf := Chg.newRow K3 [.int .i64 3, .int .i64 5]
  have rf := Rd.newRow K3 [.int .i64 3, .int .i64 5]
  have nf : (K3.newRow [.int .i64 3, .int .i64 5]).next = K3.next + 1 := rfl
  generalize ef : K3.newRow [.int .i64 3, .int .i64 5] = K4 at sf rf nf
  have so := Chg.newRow K4 [.int .i64 2, .slice (some (K3.next, 0)) 2 1 true]
  have ro := Rd.newRow K4 [.int .i64 2, .slice (some (K3.next, 0)) 2 1 true]
  have no : (K4.newRow [.int .i64 2, .slice (some (K3.next, 0)) 2 1 true]).next = K4.next + 1 := rfl
  generalize eo : K4.newRow [.int .i64 2, .slice (some (K3.next, 0)) 2 1 true] = K5 at so ro no
  obtain ⟨K6, e6, n6, s6, a6⟩ := store_own K5 [.slice none 1 0 true, .slice none 1 0 true, .slice none 1 0 true, .slice none 1 0 true, .int .i64 0] [.slice none 1 0 true, .slice (some (H.next, 0)) 4 3 true, .slice (some (K2.next, 0)) 4 1 true, .slice (some (K4.next, 0)) 2 1 true, .int .i64 0] rfl
  have un : UnE K6 unK [.slice none 1 0 true, .slice (some (H.next, 0)) 4 3 true, .slice (some (K2.next, 0)) 4 1 true, .slice (some (K4.next, 0)) 2 1 true, .int .i64 0] := by
    have rc' := rc.keep (H' := K6) (by omega) (by rw [s6.gt (by omega), so.gt (by omega), sf.gt (by omega), sm.gt (by omega), sb.gt (by omega)])
    have rb' := rb.keep (H' := K6) (by omega) (by rw [s6.gt (by omega), so.gt (by omega), sf.gt (by omega), sm.gt (by omega)])
    have rm' := rm.keep (H' := K6) (by omega) (by rw [s6.gt (by omega), so.gt (by omega), sf.gt (by omega)])
    have rf' := rf.keep (H' := K6) (by omega) (by rw [s6.gt (by omega), so.gt (by omega)])
    have ro' := ro.keep (H' := K6) (by omega) (by rw [s6.gt (by omega)])
    refine ⟨_, _, _, _, rfl, by simp [I64, unK], nilE _, ⟨_, _, _, rfl, .inr rfl, by decide, fun _ => ⟨_, 0, _, rfl, rc', rfl, fun j hj => ?_⟩⟩, ⟨_, _, _, rfl, .inr rfl, by decide, fun _ => ⟨_, 0, _, rfl, rm', rfl, fun j hj => ?_⟩⟩, ⟨_, _, _, rfl, .inr rfl, by decide, fun _ => ⟨_, 0, _, rfl, ro', rfl, fun j hj => ?_⟩⟩⟩
    · have hj' : j < 3 := hj
      rcases (by omega : j = 0 ∨ j = 1 ∨ j = 2) with rfl | rfl | rfl <;> exact ⟨_, rfl, ⟨by simp [unK], by simp [unK]⟩, by simp [unK, I64], by simp [unK, I64], nilE _⟩
    · obtain rfl : j = 0 := by have : j < 1 := hj; omega
      refine ⟨_, _, rfl, by simp [unK, I64], by simp [unK, I64], nilE _, _, _, _, rfl, .inr rfl, (show 4 ≤ maxLen by decide), fun _ => ⟨_, 0, _, rfl, rb', rfl, fun j hj => ?_⟩⟩
      have hj' : j < 4 := hj
      rcases (by omega : j = 0 ∨ j = 1 ∨ j = 2 ∨ j = 3) with rfl | rfl | rfl | rfl <;> exact ⟨rfl, by simp [unK, byOk]⟩
    · obtain rfl : j = 0 := by have : j < 1 := hj; omega
      refine ⟨_, rfl, by simp [unK, I64], _, _, _, rfl, .inr rfl, (show 1 ≤ maxLen by decide), fun _ => ⟨_, 0, _, rfl, rf', rfl, fun j hj => ?_⟩⟩
      obtain rfl : j = 0 := by have : j < 1 := hj; omega
      exact ⟨rfl, by simp [unK, prOk, I64], by simp [unK, prOk, I64]⟩
  have h06 : Sm H K6 := ((((sc.trans sb).trans sm).trans sf).trans so).trans s6
  have all6 : loadA K6 K5.next 0 5 = some [.slice none 1 0 true, .slice (some (H.next, 0)) 4 3 true, .slice (some (K2.next, 0)) 4 1 true, .slice (some (K4.next, 0)) 2 1 true, .int .i64 0] := a6.rd.load rfl
  have bndK : BndU unK := by
    refine ⟨by decide, by decide, by decide, by decide, ?_, ?_, ?_, ?_⟩ <;> decide
  simp -implicitDefEqProofs only [ec, eb, em, ef, eo, e6, all6, go_sem]
  refine CW.mono (c_Copy un bndK) ?_
  rintro _ K7 ⟨cs, rfl, cp⟩
  obtain ⟨v1, v2, v3, x, z, cl, rfl, hx1, hz1, hx2, hz2, lx, hst⟩ := cp.fld (c := 2) (k := 3) (y := 5) rfl
  have s7 := cp.sm
  have un7 := cp.un
  obtain ⟨p1, q1, k1, rfl, -⟩ : ∃ p q k, v1 = .slice p q 0 k ∧ True := by
    obtain ⟨_, _, _, _, e, -, h, -⟩ := un7
    cases e
    obtain ⟨a, b, c, e, -⟩ := h.shape
    exact ⟨a, b, c, e, trivial⟩
  obtain ⟨p2, q2, k2, rfl, -⟩ : ∃ p q k, v2 = .slice p q 3 k ∧ True := by
    obtain ⟨_, _, _, _, e, -, -, h, -⟩ := un7
    cases e
    obtain ⟨a, b, c, e, -⟩ := h.shape
    exact ⟨a, b, c, e, trivial⟩
  obtain ⟨p3, q3, k3, rfl, -⟩ : ∃ p q k, v3 = .slice p q 1 k ∧ True := by
    obtain ⟨_, _, _, _, e, -, -, -, h, -⟩ := un7
    cases e
    obtain ⟨a, b, c, e, -⟩ := h.shape
    exact ⟨a, b, c, e, trivial⟩
  obtain ⟨K8, e8, n8, s8, a8⟩ := store_own K7 [.slice none 1 0 true, .slice none 1 0 true, .slice none 1 0 true, .slice none 1 0 true, .int .i64 0] [.slice p1 q1 0 k1, .slice p2 q2 3 k2, .slice p3 q3 1 k3, .slice (some (x, 0)) 2 1 false, iv unK.main] rfl
  obtain ⟨lx8, K9, e9, n9, un9, g9⟩ := hst K8 6 s8 (by simp [I64]) (by simp [I64])
  have n7 := s7.1
  have b3 := a8.rd.one (j := 3) rfl
  rw [Nat.zero_add] at b3
  have s69 : Sm K6 K9 := Sm.of (by omega) fun w hw => by rw [g9 w (by omega), s8.gt (by omega), s7.gt hw]
  have a9 := a8.keep (H' := K9) (by omega) (g9 _ (by omega))
  have u9 : ∀ {G : AHeap}, Sm K9 G → loadA G K5.next 0 5 = some [.slice none 1 0 true, .slice (some (H.next, 0)) 4 3 true, .slice (some (K2.next, 0)) 4 1 true, .slice (some (K4.next, 0)) 2 1 true, .int .i64 0] ∧ loadA G K7.next 0 5 = some [.slice p1 q1 0 k1, .slice p2 q2 3 k2, .slice p3 q3 1 k3, .slice (some (x, 0)) 2 1 false, .int .i64 0] ∧ UnE G unK [.slice none 1 0 true, .slice (some (H.next, 0)) 4 3 true, .slice (some (K2.next, 0)) 4 1 true, .slice (some (K4.next, 0)) 2 1 true, .int .i64 0] := fun sG => ⟨((a6.sm s69).sm sG).rd.load rfl, (a9.sm sG).rd.load rfl, MonoE.un _ _ _ _ un (s69.trans sG)⟩
  obtain ⟨u1, w1, r1⟩ := u9 (Chg.refl K9)
  have zm : iv unK.main = .int .i64 0 := rfl
  rw [zm] at e8
  simp -implicitDefEqProofs only [zm, e8, b3, lx8, e9, u1, Int.reduceBNe, Bool.false_eq_true, go_sem]
  refine CW.mono (c_unitRight r1) ?_
  rintro _ G1 ⟨rfl, t1⟩
  obtain ⟨u2, w2, r2⟩ := u9 t1
  simp -implicitDefEqProofs only [unK_r, u2, Int.reduceBEq, go_sem]
  refine CW.mono (c_unitRight (unE_e G1)) ?_
  rintro _ G2 ⟨rfl, t2⟩
  obtain ⟨u3, w3, r3⟩ := u9 (t1.trans t2)
  simp -implicitDefEqProofs only [unE_r, u3, Int.reduceBEq, go_sem]
  refine CW.mono (c_Find r3 (by simp [I64]) 0) ?_
  rintro _ G3 ⟨rfl, t3⟩
  obtain ⟨u4, w4, r4⟩ := u9 ((t1.trans t2).trans t3)
  simp -implicitDefEqProofs only [unK_f.1, u4, Int.reduceBEq, go_sem]
  refine CW.mono (c_Find r4 (by simp [I64]) 0) ?_
  rintro _ G4 ⟨rfl, t4⟩
  obtain ⟨u5, w5, r5⟩ := u9 (((t1.trans t2).trans t3).trans t4)
  simp -implicitDefEqProofs only [unK_f.2, u5, Int.reduceBEq, go_sem]
  refine CW.mono (c_Words r5) ?_
  rintro _ G5 ⟨rfl, t5⟩
  obtain ⟨u6, w6, r6⟩ := u9 ((((t1.trans t2).trans t3).trans t4).trans t5)
  simp -implicitDefEqProofs only [unK_w, u6, Int.reduceBEq, go_sem]
  refine CW.mono (c_Copy r6 bndK) ?_
  rintro _ G6 ⟨cs, rfl, cp6⟩
  have t6 := cp6.sm
  obtain ⟨u7, w7, r7⟩ := u9 (((((t1.trans t2).trans t3).trans t4).trans t5).trans t6)
  simp -implicitDefEqProofs only [u7, go_sem]
  refine CW.mono (c_Same r7 cp6.un) ?_
  rintro _ G7 ⟨rfl, t7⟩
  have t17 := ((((((t1.trans t2).trans t3).trans t4).trans t5).trans t6).trans t7)
  obtain ⟨u8, w8, r8⟩ := u9 t17
  have et : decide (unK = unK) = true := decide_eq_true rfl
  simp -implicitDefEqProofs only [et, u8, w8, go_sem]
  refine CW.mono (c_Same r8 (MonoE.un _ _ _ _ un9 t17)) ?_
  rintro _ G8 ⟨rfl, t8⟩
  obtain ⟨u10, w10, r10⟩ := u9 (t17.trans t8)
  have ef : decide (unK = ⟨unK.names, unK.classes, unK.methods, [⟨2, [(3, 6)]⟩], unK.main⟩) = false := by decide +kernel
  have s68 := s69.trans (t17.trans t8)
  have lu3 := (a6.sm s68).rd.one (j := 3) rfl
  rw [Nat.zero_add] at lu3
  have lo1 := (ro.keep (H' := G8) (by have := s68.1; omega) (by rw [s68.gt (by omega), s6.gt (by omega)])).one (j := 1) rfl
  rw [Nat.zero_add] at lo1
  have lf1 := (rf.keep (H' := G8) (by have := s68.1; omega) (by rw [s68.gt (by omega), s6.gt (by omega), so.gt (by omega)])).one (j := 1) rfl
  rw [Nat.zero_add] at lf1
  simp -implicitDefEqProofs only [ef, w8, u10, w10, lu3, lo1, lf1, u1, u2, u3, u4, u5, u6, u7, u8, Int.reduceBEq, go_sem]
  exact h06.trans s68
end Go.Proofs.YtbbjlbdmjikhbaaGreatDoor.AA
