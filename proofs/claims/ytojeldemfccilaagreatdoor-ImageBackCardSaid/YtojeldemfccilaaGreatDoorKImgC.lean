/- Same, Copy. -/
import Derived.Test.YtojeldemfccilaaGreatDoorKImgB
set_option linter.unusedSimpArgs false
set_option linter.unusedVariables false
namespace Go.Proofs.YtojeldemfccilaaGreatDoor.AA
open Go Go.RowKit
set_option maxRecDepth 100000
set_option maxHeartbeats 4000000
attribute [local irreducible] Tr.set
deriving instance DecidableEq for UClass
deriving instance DecidableEq for UMethod
deriving instance DecidableEq for UObj
deriving instance DecidableEq for UUnit
theorem UClass.eqI (a b : UClass) : a = b ↔ a.name = b.name ∧ a.super = b.super ∧ a.fields = b.fields ∧ a.binds = b.binds := by cases a; cases b; simp
theorem UMethod.eqI (a b : UMethod) : a = b ↔ a.args = b.args ∧ a.temps = b.temps ∧ a.lits = b.lits ∧ a.code = b.code := by cases a; cases b; simp
theorem UObj.eqI (a b : UObj) : a = b ↔ a.cls = b.cls ∧ a.fields = b.fields := by cases a; cases b; simp
theorem UUnit.eqI (a b : UUnit) : a = b ↔ a.names = b.names ∧ a.classes = b.classes ∧ a.methods = b.methods ∧ a.objects = b.objects ∧ a.main = b.main := by cases a; cases b; simp
def shP : ESh := .parts [(0, 1, .sc .int), (1, 1, .sc .int)]
theorem neP (a b : Pr2) : binA .neq shP (.agg (prC a)) (.agg (prC b)) = some (.bool (decide (a ≠ b))) := by
  obtain ⟨x, y⟩ := a
  obtain ⟨z, w⟩ := b
  have e : eqA shP (.agg (prC (x, y))) (.agg (prC (z, w))) = some (decide ((x, y) = (z, w))) := by
    by_cases h1 : x = z
    · subst h1
      by_cases h2 : y = w
      · subst h2
        simp [eqA, eqD, shP, eqPl, prC, iv, aggOf, ESh.isParts, sameS]
      · simp [eqA, eqD, shP, eqPl, prC, iv, aggOf, ESh.isParts, sameS, h2]
    · have h1' : (x == z) = false := by simpa using h1
      simp [eqA, eqD, shP, eqPl, prC, iv, aggOf, ESh.isParts, sameS, h1, h1']
  have : binA .neq shP (.agg (prC (x, y))) (.agg (prC (z, w))) = (eqA shP (.agg (prC (x, y))) (.agg (prC (z, w)))).map fun b => .bool !b := rfl
  rw [this, e]
  simp
theorem c_eqPr {f : Nat} (hf : MN.fs f = some (gEqual 2 true shP)) {H : AHeap} {xs ys : List Pr2} {v w : AV} (h : SlE PrE 2 H xs [v]) (h' : SlE PrE 2 H ys [w]) : CW MN f [v, w] H fun u H' => u = .bool (decide (xs = ys)) ∧ H' = H :=
  c_equal hf h h' (el := fun a => .agg (prC a)) (fun _ _ => rfl) neP fun a => by simp [eqAV, prC, eqAVL, iv]
theorem c_eqBy {f : Nat} (hf : MN.fs f = some (gEqual 1 false (.sc .int))) {H : AHeap} {xs ys : List Nat} {v w : AV} (h : SlE ByE 1 H xs [v]) (h' : SlE ByE 1 H ys [w]) : CW MN f [v, w] H fun u H' => u = .bool (decide (xs = ys)) ∧ H' = H :=
  c_equal hf h h' (el := fun a => .int .u8 (a : Int)) (fun _ _ => rfl) (fun a b => by
    by_cases hab : a = b
    · subst hab; simp [binA]
    · have : ¬ (a : Int) = b := by omega
      simp [binA, hab, this]) fun a => by simp [eqAV]
attribute [local go_sem ↓] WP_seq WP_skip WP_region WP_dregion WP_cond WP_block WP_exit WP_ret OW_nil OW_cons DW_nil DW_cons XW_call reduceIte OW_guard DW_guard
attribute [local go_sem] XW exA KO_eq OptK_some EvK_some GW2_true GW2_false KS_normal KS_ret KS_exit KB_normal KB_ret KB_exit CP2_bool RP_ret putA_some putA_none ev_t ev_c evs evo wantA initA resA Tr.get_set vl chkOk cond_true cond_false Nat.add_zero Nat.mul_one Nat.one_mul Nat.zero_add Nat.zero_mul aggOf pInt binA unA intA beq_true beq_false Bool.not_true Bool.not_false Bool.not_eq_true and_self and_true true_and reduceIte Nat.reduceEqDiff Nat.succ_ne_self Nat.reduceAdd Nat.reduceMul Nat.reduceSub Nat.reduceBEq Nat.reduceLT Nat.reduceLeDiff Int.cast_ofNat_Int Int.reduceToNat Int.reduceLT Int.reduceLE Int.reduceGE Int.reduceGT Int.reduceEq Int.reduceNe Int.reduceAdd Int.reduceSub Int.reduceNeg decide_true decide_false Int.toNat_natCast reduceCtorEq List.nil_append List.cons_append AV.boxy AV.cells List.length_cons List.length_nil Nat.beq_refl AOp.cl KDW_0 KDW_1 KDW_2 OWskip_eq DWskip_eq fillA setAt DChk DAt stepA ble_dec beq_dec Bool.and_self Bool.and_true Bool.true_and Bool.and_false Bool.false_and List.take_succ_cons List.take_zero List.drop_succ_cons List.drop_zero List.take_nil List.drop_nil List.append_nil eqAV eqAVL BEq.rfl sameS Option.map Option.isNone wrap64 gt_iff_lt ge_iff_le Int.lt_irrefl Int.le_refl
set_option maxHeartbeats 4000000
theorem toInts_by : ∀ (l : List Nat), (∀ x, x ∈ l → x < 256) → toInts (l.map fun (n : Nat) => AV.int .u8 (n : Int)) = some l
  | [], _ => rfl
  | n :: l, h => by
    have h1 := h n (by simp)
    have : (0 : Int) ≤ (n : Int) ∧ (n : Int) < 256 := by omega
    rw [List.map_cons, toInts, if_pos this, toInts_by l fun x hx => h x (by simp [hx])]; rfl
theorem ByE.str {H : AHeap} {l : List Nat} {v : AV} (h : SlE ByE 1 H l [v]) : convA .toStr v H = some (.str l, H) := by
  obtain ⟨a, s0, cl, e, k0, k1, k⟩ := h
  cases e
  by_cases h0 : l.length = 0
  · obtain rfl := List.eq_nil_of_length_eq_zero h0
    cases a <;> rfl
  · obtain ⟨x, o, cs, rfl, hr, hl, hj⟩ := k h0
    rw [Nat.mul_one] at hl
    have hc : cs = l.map fun (n : Nat) => AV.int .u8 (n : Int) := by
      refine List.ext_getElem (by simpa using hl) fun j h1 h2 => ?_
      have := (hj j (by omega)).1
      rw [Nat.mul_one, List.drop_eq_getElem_cons h1] at this
      rw [List.take_succ_cons, List.take_zero] at this
      rw [(List.cons.inj this).1, List.getElem_map]
    subst hc
    have hb : ∀ x, x ∈ l → x < 256 := fun y hy => by
      obtain ⟨j, hj', rfl⟩ := List.getElem_of_mem hy
      exact (hj j hj').2
    exact convA_str (hr.load hl) (toInts_by l hb)
theorem c_rSameM {H : AHeap} {a b : UMethod} {ca cb : List AV} (ha : MeE H a ca) (hb : MeE H b cb) : CW MN 40 [.agg ca, .agg cb] H fun w H' => w = .bool (decide (a = b)) ∧ Sm H H' := by
  refine CW_of (fn := af40) rfl ?_
  dsimp only [af40, qm, q, qG, qn, qi, qb, qB, qk, qc, qo, qg, qv, qr]
  obtain ⟨va, va', ba, rfl⟩ := BoxM.of ha
  have s1 := Chg.newRow H [.int .i64 a.args, .int .i64 a.temps, va, va']
  generalize eH1 : H.newRow [.int .i64 a.args, .int .i64 a.temps, va, va'] = H1 at ba s1
  obtain ⟨vb, vb', bb, rfl⟩ := BoxM.of (MonoE.me _ _ _ _ hb s1)
  have s2 := Chg.newRow H1 [.int .i64 b.args, .int .i64 b.temps, vb, vb']
  generalize eH2 : H1.newRow [.int .i64 b.args, .int .i64 b.temps, vb, vb'] = H2 at bb s2
  have ba := ba.sm s2
  have a0 := ba.l0; have a1 := ba.l1; have a2 := ba.l2; have a3 := ba.l3
  have b0 := bb.l0; have b1 := bb.l1; have b2 := bb.l2; have b3 := bb.l3
  have s12 := s1.trans s2
  by_cases h0 : a.args = b.args
  · have h0' : (a.args == b.args) = true := by simpa using h0
    by_cases h1 : a.temps = b.temps
    · have h1' : (a.temps == b.temps) = true := by simpa using h1
      simp -implicitDefEqProofs only [eH1, eH2, a0, a1, a2, a3, b0, b1, b2, b3, h0', h1', go_sem]
      refine CW.mono (c_eqPr (f := 41) rfl ba.lits bb.lits) ?_
      rintro w G ⟨rfl, rfl⟩
      by_cases h2 : a.lits = b.lits
      · have ta := ByE.str ba.code
        have tb := ByE.str bb.code
        have e : (a.code == b.code) = decide (a = b) := by rw [Bool.eq_iff_iff]; simp [UMethod.eqI, h0, h1, h2]
        simp -implicitDefEqProofs only [a0, a1, a2, a3, b0, b1, b2, b3, decide_eq_true h2, ta, tb, e, go_sem]
        exact s12
      · have e : decide (a = b) = false := by simp only [UMethod.eqI, h2, false_and, and_false, decide_false]
        simp -implicitDefEqProofs only [a0, a1, a2, a3, b0, b1, b2, b3, decide_eq_false h2, e, go_sem]
        exact s12
    · have h1' : (a.temps == b.temps) = false := by simpa using h1
      have e : decide (a = b) = false := by simp only [UMethod.eqI, h1, false_and, and_false, decide_false]
      simp -implicitDefEqProofs only [eH1, eH2, a0, a1, a2, a3, b0, b1, b2, b3, h0', h1', e, go_sem]
      exact s12
  · have h0' : (a.args == b.args) = false := by simpa using h0
    have e : decide (a = b) = false := by simp only [UMethod.eqI, h0, false_and, and_false, decide_false]
    simp -implicitDefEqProofs only [eH1, eH2, a0, a1, a2, a3, b0, b1, b2, b3, h0', e, go_sem]
    exact s12
theorem two_new (H : AHeap) (zs vs zs' vs' : List AV) (hl : vs.length = zs.length) (hl' : vs'.length = zs'.length) : ∃ Hc Hd, storeA ((H.newRow zs).newRow zs') H.next 0 vs = some Hc ∧ storeA Hc (H.next + 1) 0 vs' = some Hd ∧ Hc.next = H.next + 2 ∧ Hd.next = H.next + 2 ∧ Sm H Hc ∧ Sm H Hd ∧ Rd Hd H.next 0 vs ∧ Rd Hd (H.next + 1) 0 vs' := by
  have a1 := Arr.newRow H zs fun _ => False
  have s1 := Chg.newRow H zs
  have hn1 : (H.newRow zs).next = H.next + 1 := rfl
  generalize H.newRow zs = H1 at a1 s1 hn1
  have a2 := Arr.newRow H1 zs' fun _ => False
  have s2 := Chg.newRow H1 zs'
  have hn2 : (H1.newRow zs').next = H1.next + 1 := rfl
  generalize H1.newRow zs' = H2 at a2 s2 hn2
  have a1 : Arr H2 H.next zs fun _ => False := by
    obtain ⟨h1, h2⟩ := a1
    refine ⟨Nat.lt_of_lt_of_le h1 s2.1, ?_⟩
    rw [s2.gt h1]; exact h2
  have es : ∀ (zs vs : List AV), vs.length = zs.length → vs = setAt zs 0 vs := fun zs vs h => by
    unfold setAt
    rw [List.take_zero, List.nil_append, List.drop_eq_nil_of_le (by omega), List.append_nil]
  obtain ⟨Hc, e1, n1, b1, g1⟩ := a1.store (vs := vs) (o := 0) (by omega) (es _ _ hl)
  have a2 : Arr Hc H1.next zs' fun _ => False := by
    obtain ⟨h1, h2⟩ := a2
    refine ⟨by omega, ?_⟩
    rw [g1 _ (by omega) (fun h => h)]; exact h2
  obtain ⟨Hd, e2, n2, b2, g2⟩ := a2.store (vs := vs') (o := 0) (by omega) (es _ _ hl')
  have b1' : Arr Hd H.next vs fun _ => False := by
    obtain ⟨h1, h2⟩ := b1
    refine ⟨by omega, ?_⟩
    rw [g2 _ (by omega) (fun h => h)]; exact h2
  have s12 := s1.trans s2
  have sc : Sm H Hc := Sm.of (by rw [n1]; exact s12.1) fun x hx => by rw [g1 _ (by omega) (fun h => h), s12.gt hx]
  refine ⟨Hc, Hd, e1, by rw [← hn1]; exact e2, by omega, by omega, sc, Sm.of (by omega) fun x hx => by rw [g2 _ (by omega) (fun h => h), sc.gt hx], b1'.rd, by rw [← hn1]; exact b2.rd⟩
theorem ne_at {α : Type} {l m : List α} {i : Nat} (h : i < l.length) (h' : i < m.length) (hne : l[i] ≠ m[i]) : l ≠ m := fun e => by
  subst e; exact hne rfl
theorem eq_all {α : Type} {l m : List α} (hl : l.length = m.length) (h : ∀ j (hj : j < l.length), l[j] = m[j]'(by omega)) : l = m := List.ext_getElem hl fun j h1 _ => h j h1
theorem c_rSame {H : AHeap} {a b : UUnit} {ca cb : List AV} (ha : UnE H a ca) (hb : UnE H b cb) : CW MN 19 [.agg ca, .agg cb] H fun w H' => w = .bool (decide (a = b)) ∧ Sm H H' := by
  refine CW_of (fn := af19) rfl ?_
  dsimp only [af19, qm, q, qG, qn, qi, qb, qB, qk, qc, qo, qg, qv, qr]
  obtain ⟨v1, v2, v3, v4, ba, rfl⟩ := BoxU.of ha
  have s1 := Chg.newRow H [v1, v2, v3, v4, .int .i64 a.main]
  have hn1 : (H.newRow [v1, v2, v3, v4, .int .i64 a.main]).next = H.next + 1 := rfl
  generalize eH1 : H.newRow [v1, v2, v3, v4, .int .i64 a.main] = H1 at ba s1 hn1
  obtain ⟨w1, w2, w3, w4, bb, rfl⟩ := BoxU.of (MonoE.un _ _ _ _ hb s1)
  have s2 := Chg.newRow H1 [w1, w2, w3, w4, .int .i64 b.main]
  generalize eH2 : H1.newRow [w1, w2, w3, w4, .int .i64 b.main] = H2 at bb s2
  have ba := ba.sm s2
  have s12 := s1.trans s2
  obtain ⟨p1, q1, k1, rfl, -⟩ := ba.names.shape
  obtain ⟨p2, q2, k2, rfl, -⟩ := ba.classes.shape
  obtain ⟨p3, q3, k3, rfl, -⟩ := ba.methods.shape
  obtain ⟨p4, q4, k4, rfl, -⟩ := ba.objects.shape
  obtain ⟨p1', q1', k1', rfl, -⟩ := bb.names.shape
  obtain ⟨p2', q2', k2', rfl, -⟩ := bb.classes.shape
  obtain ⟨p3', q3', k3', rfl, -⟩ := bb.methods.shape
  obtain ⟨p4', q4', k4', rfl, -⟩ := bb.objects.shape
  have m1 := ba.names.max; have m2 := ba.classes.max; have m3 := ba.methods.max; have m4 := ba.objects.max
  have a0 := ba.l0; have a1 := ba.l1; have a2 := ba.l2; have a3 := ba.l3; have a4 := ba.l4
  have b0 := bb.l0; have b1 := bb.l1; have b2 := bb.l2; have b3 := bb.l3; have b4 := bb.l4
  by_cases h0 : a.names.length = b.names.length
  rotate_left
  · have h0' : ((a.names.length : Int) != (b.names.length : Int)) = true := by simp; omega
    have e : decide (a = b) = false := decide_eq_false fun e => h0 (by rw [e])
    simp -implicitDefEqProofs only [eH1, eH2, a0, a1, a2, a3, a4, b0, b1, b2, b3, b4, h0', e, go_sem]
    exact s12
  have h0' : ((a.names.length : Int) != (b.names.length : Int)) = false := by simp; omega
  by_cases h1 : a.classes.length = b.classes.length
  rotate_left
  · have h1' : ((a.classes.length : Int) != (b.classes.length : Int)) = true := by simp; omega
    have e : decide (a = b) = false := decide_eq_false fun e => h1 (by rw [e])
    simp -implicitDefEqProofs only [eH1, eH2, a0, a1, a2, a3, a4, b0, b1, b2, b3, b4, h0', h1', e, Bool.false_eq_true, go_sem]
    exact s12
  have h1' : ((a.classes.length : Int) != (b.classes.length : Int)) = false := by simp; omega
  by_cases h2 : a.methods.length = b.methods.length
  rotate_left
  · have h2' : ((a.methods.length : Int) != (b.methods.length : Int)) = true := by simp; omega
    have e : decide (a = b) = false := decide_eq_false fun e => h2 (by rw [e])
    simp -implicitDefEqProofs only [eH1, eH2, a0, a1, a2, a3, a4, b0, b1, b2, b3, b4, h0', h1', h2', e, Bool.false_eq_true, go_sem]
    exact s12
  have h2' : ((a.methods.length : Int) != (b.methods.length : Int)) = false := by simp; omega
  by_cases h3 : a.objects.length = b.objects.length
  rotate_left
  · have h3' : ((a.objects.length : Int) != (b.objects.length : Int)) = true := by simp; omega
    have e : decide (a = b) = false := decide_eq_false fun e => h3 (by rw [e])
    simp -implicitDefEqProofs only [eH1, eH2, a0, a1, a2, a3, a4, b0, b1, b2, b3, b4, h0', h1', h2', h3', e, Bool.false_eq_true, go_sem]
    exact s12
  have h3' : ((a.objects.length : Int) != (b.objects.length : Int)) = false := by simp; omega
  by_cases h4 : a.main = b.main
  rotate_left
  · have h4' : (a.main != b.main) = true := by simpa using h4
    have e : decide (a = b) = false := decide_eq_false fun e => h4 (by rw [e])
    simp -implicitDefEqProofs only [eH1, eH2, a0, a1, a2, a3, a4, b0, b1, b2, b3, b4, h0', h1', h2', h3', h4', e, Bool.false_eq_true, go_sem]
    exact s12
  have h4' : (a.main != b.main) = false := by simpa using h4
  simp -implicitDefEqProofs only [eH1, eH2, a0, a1, a2, a3, a4, b0, b1, b2, b3, b4, h0', h1', h2', h3', h4', Bool.false_eq_true, go_sem]
  have hn2 : H1.next < H2.next := by have := bb.lt; omega
  clear eH1 eH2 hn1 s1 s2
  -- the names
  refine WP_mono (Q := fun ex fr H' => ex = .exit 0 ∧ a.names = b.names ∧ fr.get 2 = some (.ptr (some (H.next, 0))) ∧ fr.get 3 = some (.ptr (some (H1.next, 0))) ∧ Sm H2 H' ∨ ex = .ret ∧ a ≠ b ∧ fr.get 4 = some (.bool false) ∧ Sm H2 H') ?_ (WP_loop (fun n fr H' => ∃ i : Nat, n = a.names.length - i ∧ i ≤ a.names.length ∧ (∀ j (hj : j < a.names.length), j < i → a.names[j] = b.names[j]'(by omega)) ∧ fr.get 2 = some (.ptr (some (H.next, 0))) ∧ fr.get 3 = some (.ptr (some (H1.next, 0))) ∧ fr.get 54 = some (.int .i64 a.names.length) ∧ fr.get 55 = some (.int .i64 i) ∧ Sm H2 H') a.names.length ?_ ?_)
  rotate_left
  · refine ⟨0, rfl, by omega, fun j hj hj' => by omega, ?_⟩
    simp -implicitDefEqProofs only [go_sem]
    exact Chg.refl H2
  · rintro n fr H3 ⟨i, hn, hi, hall, g2, g3, g54, g55, s3⟩
    have i0 : (0 : Int) ≤ (i : Int) := by omega
    by_cases hlt : i < a.names.length
    · have hlt' : (i : Int) < (a.names.length : Int) := by omega
      have hlt2 : (i : Int) < (b.names.length : Int) := by omega
      have hw := wrapS hlt m1
      have a0 := (ba.sm s3).l0; have b0 := (bb.sm s3).l0
      obtain ⟨x, o, rfl, rfl, ld, -⟩ := StE.at (ba.sm s3).names hlt
      obtain ⟨x', o', rfl, rfl, ld', -⟩ := StE.at (bb.sm s3).names (i := i) (by omega)
      by_cases hq : a.names[i] = b.names[i]'(by omega)
      · have hq' : (a.names[i] != b.names[i]'(by omega)) = false := by simpa using hq
        simp -implicitDefEqProofs only [g2, g3, g54, g55, hlt', hlt2, i0, a0, b0, ld, ld', hq', hw, Bool.false_eq_true, go_sem]
        refine ⟨a.names.length - (i + 1), by omega, i + 1, rfl, by omega, fun j hj hj' => ?_, rfl, s3⟩
        by_cases e : j = i
        · subst e; exact hq
        · exact hall j hj (by omega)
      · have hq' : (a.names[i] != b.names[i]'(by omega)) = true := by simpa using hq
        simp -implicitDefEqProofs only [g2, g3, g54, g55, hlt', hlt2, i0, a0, b0, ld, ld', hq', go_sem]
        exact .inr ⟨fun e => ne_at hlt (by omega) hq (by rw [e]), s3⟩
    · have hlt' : ¬ (i : Int) < (a.names.length : Int) := by omega
      simp -implicitDefEqProofs only [g2, g3, g54, g55, hlt', Bool.false_eq_true, go_sem]
      exact .inl ⟨eq_all h0 fun j hj => hall j hj (by omega), s3⟩
  rintro ex fr H3 (⟨rfl, n0, g2, g3, s3⟩ | ⟨rfl, hne, g4, s3⟩)
  rotate_left
  · simp -implicitDefEqProofs only [g4, decide_eq_false hne, go_sem]
    exact s12.trans s3
  have s12 := s12.trans s3
  have ba := ba.sm s3
  have bb := bb.sm s3
  have hn2 : H1.next < H3.next := by have := s3.1; omega
  clear s3 a0 a1 a2 a3 a4 b0 b1 b2 b3 b4
  have a1 := ba.l1
  simp -implicitDefEqProofs only [g2, g3, a1, go_sem]
  -- the classes
  refine WP_mono (Q := fun ex fr H' => ex = .exit 2 ∧ a.classes = b.classes ∧ fr.get 2 = some (.ptr (some (H.next, 0))) ∧ fr.get 3 = some (.ptr (some (H1.next, 0))) ∧ Sm H3 H' ∨ ex = .ret ∧ a ≠ b ∧ fr.get 4 = some (.bool false) ∧ Sm H3 H') ?_ (WP_loop (fun n fr H' => ∃ i : Nat, n = a.classes.length - i ∧ i ≤ a.classes.length ∧ (∀ j (hj : j < a.classes.length), j < i → a.classes[j] = b.classes[j]'(by omega)) ∧ fr.get 2 = some (.ptr (some (H.next, 0))) ∧ fr.get 3 = some (.ptr (some (H1.next, 0))) ∧ fr.get 72 = some (.int .i64 a.classes.length) ∧ fr.get 73 = some (.int .i64 i) ∧ Sm H3 H') a.classes.length ?_ ?_)
  rotate_left
  · refine ⟨0, rfl, by omega, fun j hj hj' => by omega, ?_⟩
    simp -implicitDefEqProofs only [g2, g3, go_sem]
    exact Chg.refl H3
  · rintro n fr H4 ⟨i, hn, hi, hall, g2, g3, g72, g73, s4⟩
    have i0 : (0 : Int) ≤ (i : Int) := by omega
    by_cases hlt : i < a.classes.length
    · have hlt' : (i : Int) < (a.classes.length : Int) := by omega
      have hltb : i < b.classes.length := by omega
      have hlt2 : (i : Int) < (b.classes.length : Int) := by omega
      have hw := wrapS hlt m2
      have a1 := (ba.sm s4).l1; have b1 := (bb.sm s4).l1
      have hca := (ba.sm s4).classes
      have hcb := (bb.sm s4).classes
      obtain ⟨x, o, vb, rfl, rfl, ld, -, -, -, -, hvb, -, -, -, hx⟩ := ClE.at hca hlt
      obtain ⟨x', o', vb', rfl, rfl, ld', -, -, -, -, hvb', -, -, -, hx'⟩ := ClE.at hcb hltb
      simp only [iv] at ld ld'
      have hne0 : a.classes[i] ≠ b.classes[i] → a ≠ b := fun hne e => ne_at hlt hltb hne (by rw [e])
      have heq0 : a.classes[i] = b.classes[i] → ∀ j (hj : j < a.classes.length), j < i + 1 → a.classes[j] = b.classes[j]'(by omega) := fun he j hj hj' => by
        by_cases e : j = i
        · subst e; exact he
        · exact hall j hj (by omega)
      generalize a.classes[i] = c at *
      generalize b.classes[i] = d at *
      obtain ⟨pv, qv, kv, rfl, -⟩ := hvb.shape
      obtain ⟨pv', qv', kv', rfl, -⟩ := hvb'.shape
      generalize hz : ([.str [], .int .i64 0, .int .i64 0, .slice none 1 0 true] : List AV) = z
      have sA := Chg.newRow H4 z
      have sB := sA.trans (Chg.newRow (H4.newRow z) z)
      have hnA : (H4.newRow z).next = H4.next + 1 := rfl
      have hzl : z.length = 4 := by rw [← hz]; rfl
      obtain ⟨Hc, Hd, e1, e2, n1, n2, sC, sD, rc, rd⟩ := two_new H4 z [.str c.name, .int .i64 c.super, .int .i64 c.fields, .slice pv qv c.binds.length kv] z [.str d.name, .int .i64 d.super, .int .i64 d.fields, .slice pv' qv' d.binds.length kv'] hzl.symm hzl.symm
      have fa := fun G (s : Sm H4 G) => (ba.sm (s4.trans s)).l1
      have fb := fun G (s : Sm H4 G) => (bb.sm (s4.trans s)).l1
      have fc : ∀ G, Sm H4 G → loadA G x (o + i * 4) 4 = some [.str c.name, .int .i64 c.super, .int .i64 c.fields, .slice pv qv c.binds.length kv] := fun G s => by rw [s.ld hx, ld]
      have fd : ∀ G, Sm H4 G → loadA G x' (o' + i * 4) 4 = some [.str d.name, .int .i64 d.super, .int .i64 d.fields, .slice pv' qv' d.binds.length kv'] := fun G s => by rw [s.ld hx', ld']
      have x0 := rc.one (j := 0) rfl
      have x1 := rc.one (j := 1) rfl
      have x2 := rc.one (j := 2) rfl
      have x3 := rc.one (j := 3) rfl
      have y0 := rd.one (j := 0) rfl
      have y1 := rd.one (j := 1) rfl
      have y2 := rd.one (j := 2) rfl
      have y3 := rd.one (j := 3) rfl
      rw [Nat.zero_add] at x0 x1 x2 x3 y0 y1 y2 y3
      by_cases c0 : c.name = d.name
      rotate_left
      · have c0' : (c.name != d.name) = true := by simpa using c0
        simp -implicitDefEqProofs only [hz, hnA, g2, g3, g72, g73, hlt', hlt2, i0, a1, b1, ld, ld', fa _ sA, fa _ sB, fa _ sC, fb _ sA, fb _ sB, fb _ sC, fc _ sA, fc _ sB, fc _ sC, fd _ sA, fd _ sB, fd _ sC, e1, e2, x0, x1, x2, x3, y0, y1, y2, y3, c0', go_sem]
        exact .inr ⟨hne0 fun e => c0 (by rw [e]), s4.trans sD⟩
      have c0' : (c.name != d.name) = false := by simpa using c0
      by_cases c1 : c.super = d.super
      rotate_left
      · have c1' : (c.super != d.super) = true := by simpa using c1
        simp -implicitDefEqProofs only [hz, hnA, g2, g3, g72, g73, hlt', hlt2, i0, a1, b1, ld, ld', fa _ sA, fa _ sB, fa _ sC, fb _ sA, fb _ sB, fb _ sC, fc _ sA, fc _ sB, fc _ sC, fd _ sA, fd _ sB, fd _ sC, e1, e2, x0, x1, x2, x3, y0, y1, y2, y3, c0', c1', Bool.false_eq_true, go_sem]
        exact .inr ⟨hne0 fun e => c1 (by rw [e]), s4.trans sD⟩
      have c1' : (c.super != d.super) = false := by simpa using c1
      by_cases c2 : c.fields = d.fields
      rotate_left
      · have c2' : (c.fields != d.fields) = true := by simpa using c2
        simp -implicitDefEqProofs only [hz, hnA, g2, g3, g72, g73, hlt', hlt2, i0, a1, b1, ld, ld', fa _ sA, fa _ sB, fa _ sC, fb _ sA, fb _ sB, fb _ sC, fc _ sA, fc _ sB, fc _ sC, fd _ sA, fd _ sB, fd _ sC, e1, e2, x0, x1, x2, x3, y0, y1, y2, y3, c0', c1', c2', Bool.false_eq_true, go_sem]
        exact .inr ⟨hne0 fun e => c2 (by rw [e]), s4.trans sD⟩
      have c2' : (c.fields != d.fields) = false := by simpa using c2
      simp -implicitDefEqProofs only [hz, hnA, g2, g3, g72, g73, hlt', hlt2, i0, a1, b1, ld, ld', fa _ sA, fa _ sB, fa _ sC, fb _ sA, fb _ sB, fb _ sC, fc _ sA, fc _ sB, fc _ sC, fd _ sA, fd _ sB, fd _ sC, e1, e2, x0, x1, x2, x3, y0, y1, y2, y3, c0', c1', c2', Bool.false_eq_true, go_sem]
      refine CW.mono (c_eqPr (f := 39) rfl (MonoE.enc.sl _ _ _ _ hvb sD) (MonoE.enc.sl _ _ _ _ hvb' sD)) ?_
      rintro w G ⟨rfl, rfl⟩
      by_cases c3 : c.binds = d.binds
      · have he := (UClass.eqI c d).2 ⟨c0, c1, c2, c3⟩
        simp -implicitDefEqProofs only [decide_eq_true c3, g2, g3, g72, g73, hw, Bool.false_eq_true, go_sem]
        exact ⟨a.classes.length - (i + 1), by omega, i + 1, rfl, by omega, heq0 he, rfl, s4.trans sD⟩
      · simp -implicitDefEqProofs only [decide_eq_false c3, g2, g3, g72, g73, Bool.false_eq_true, go_sem]
        exact .inr ⟨hne0 fun e => c3 (by rw [e]), s4.trans sD⟩
    · have hlt' : ¬ (i : Int) < (a.classes.length : Int) := by omega
      simp -implicitDefEqProofs only [g2, g3, g72, g73, hlt', Bool.false_eq_true, go_sem]
      exact .inl ⟨eq_all h1 fun j hj => hall j hj (by omega), s4⟩
  rintro ex fr H4 (⟨rfl, n1, g2, g3, s3⟩ | ⟨rfl, hne, g4, s3⟩)
  rotate_left
  · simp -implicitDefEqProofs only [g4, decide_eq_false hne, go_sem]
    exact s12.trans s3
  have s12 := s12.trans s3
  have ba := ba.sm s3
  have bb := bb.sm s3
  have hn2 : H1.next < H4.next := by have := s3.1; omega
  clear s3 a1
  have a2 := ba.l2
  simp -implicitDefEqProofs only [g2, g3, a2, go_sem]
  -- the methods
  refine WP_mono (Q := fun ex fr H' => ex = .exit 4 ∧ a.methods = b.methods ∧ fr.get 2 = some (.ptr (some (H.next, 0))) ∧ fr.get 3 = some (.ptr (some (H1.next, 0))) ∧ Sm H4 H' ∨ ex = .ret ∧ a ≠ b ∧ fr.get 4 = some (.bool false) ∧ Sm H4 H') ?_ (WP_loop (fun n fr H' => ∃ i : Nat, n = a.methods.length - i ∧ i ≤ a.methods.length ∧ (∀ j (hj : j < a.methods.length), j < i → a.methods[j] = b.methods[j]'(by omega)) ∧ fr.get 2 = some (.ptr (some (H.next, 0))) ∧ fr.get 3 = some (.ptr (some (H1.next, 0))) ∧ fr.get 116 = some (.int .i64 a.methods.length) ∧ fr.get 117 = some (.int .i64 i) ∧ Sm H4 H') a.methods.length ?_ ?_)
  rotate_left
  · refine ⟨0, rfl, by omega, fun j hj hj' => by omega, ?_⟩
    simp -implicitDefEqProofs only [g2, g3, go_sem]
    exact Chg.refl H4
  · rintro n fr H5 ⟨i, hn, hi, hall, g2, g3, g116, g117, s5⟩
    have i0 : (0 : Int) ≤ (i : Int) := by omega
    by_cases hlt : i < a.methods.length
    · have hlt' : (i : Int) < (a.methods.length : Int) := by omega
      have hltb : i < b.methods.length := by omega
      have hlt2 : (i : Int) < (b.methods.length : Int) := by omega
      have hw := wrapS hlt m3
      have ba5 := ba.sm s5
      have bb5 := bb.sm s5
      obtain ⟨x, o, l, rfl, rfl, ld, hl, ha, hrd⟩ := ba5.methods.at hlt
      obtain ⟨x', o', l', rfl, rfl, ld', hl', hb, hrd'⟩ := bb5.methods.at hltb
      have ha0 := ha
      have hb0 := hb
      obtain ⟨va, wa, rfl, -, -, hva, hwa⟩ := ha0
      obtain ⟨vb, wb, rfl, -, -, hvb, hwb⟩ := hb0
      obtain ⟨pa, qa, ka, rfl, -⟩ := hva.shape
      obtain ⟨pb, qb, kb, rfl, -⟩ := hvb.shape
      obtain ⟨pa', qa', ka', rfl, -⟩ := hwa.shape
      obtain ⟨pb', qb', kb', rfl, -⟩ := hwb.shape
      simp only [iv] at ld ld' ha hb hrd hrd'
      have a2 := ba5.l2; have b2 := bb5.l2
      simp -implicitDefEqProofs only [g2, g3, g116, g117, hlt', hlt2, i0, a2, b2, ld, ld', go_sem]
      refine CW.mono (c_rSameM ha hb) ?_
      rintro w H6 ⟨rfl, s6⟩
      have ba6 := ba5.sm s6
      have bb6 := bb5.sm s6
      have a2' := ba6.l2; have b2' := bb6.l2
      have lx := s6.ld hrd.1 (i := o + i * 4) (n := 4)
      have lx' := s6.ld hrd'.1 (i := o' + i * 4) (n := 4)
      rw [ld] at lx
      rw [ld'] at lx'
      by_cases he : a.methods[i] = b.methods[i]
      · simp -implicitDefEqProofs only [decide_eq_true he, g2, g3, g116, g117, hlt', hlt2, i0, a2, b2, ld, ld', a2', b2', lx, lx', hw, Bool.false_eq_true, go_sem]
        refine ⟨a.methods.length - (i + 1), by omega, i + 1, rfl, by omega, fun j hj hj' => ?_, rfl, s5.trans s6⟩
        by_cases e : j = i
        · subst e; exact he
        · exact hall j hj (by omega)
      · simp -implicitDefEqProofs only [decide_eq_false he, g2, g3, g116, g117, hlt', hlt2, i0, a2, b2, ld, ld', a2', b2', lx, lx', Bool.false_eq_true, go_sem]
        exact .inr ⟨fun e => ne_at hlt hltb he (by rw [e]), s5.trans s6⟩
    · have hlt' : ¬ (i : Int) < (a.methods.length : Int) := by omega
      simp -implicitDefEqProofs only [g2, g3, g116, g117, hlt', Bool.false_eq_true, go_sem]
      exact .inl ⟨eq_all h2 fun j hj => hall j hj (by omega), s5⟩
  rintro ex fr H5 (⟨rfl, n2, g2, g3, s3⟩ | ⟨rfl, hne, g4, s3⟩)
  rotate_left
  · simp -implicitDefEqProofs only [g4, decide_eq_false hne, go_sem]
    exact s12.trans s3
  have s12 := s12.trans s3
  have ba := ba.sm s3
  have bb := bb.sm s3
  have hn2 : H1.next < H5.next := by have := s3.1; omega
  clear s3 a2
  have a3 := ba.l3
  simp -implicitDefEqProofs only [g2, g3, a3, go_sem]
  -- the objects
  refine WP_mono (Q := fun ex fr H' => ex = .exit 6 ∧ a.objects = b.objects ∧ Sm H5 H' ∨ ex = .ret ∧ a ≠ b ∧ fr.get 4 = some (.bool false) ∧ Sm H5 H') ?_ (WP_loop (fun n fr H' => ∃ i : Nat, n = a.objects.length - i ∧ i ≤ a.objects.length ∧ (∀ j (hj : j < a.objects.length), j < i → a.objects[j] = b.objects[j]'(by omega)) ∧ fr.get 2 = some (.ptr (some (H.next, 0))) ∧ fr.get 3 = some (.ptr (some (H1.next, 0))) ∧ fr.get 135 = some (.int .i64 a.objects.length) ∧ fr.get 136 = some (.int .i64 i) ∧ Sm H5 H') a.objects.length ?_ ?_)
  rotate_left
  · refine ⟨0, rfl, by omega, fun j hj hj' => by omega, ?_⟩
    simp -implicitDefEqProofs only [g2, g3, go_sem]
    exact Chg.refl H5
  · rintro n fr H6 ⟨i, hn, hi, hall, g2, g3, g135, g136, s6⟩
    have i0 : (0 : Int) ≤ (i : Int) := by omega
    by_cases hlt : i < a.objects.length
    · have hlt' : (i : Int) < (a.objects.length : Int) := by omega
      have hltb : i < b.objects.length := by omega
      have hlt2 : (i : Int) < (b.objects.length : Int) := by omega
      have hw := wrapS hlt m4
      have ba6 := ba.sm s6
      have bb6 := bb.sm s6
      obtain ⟨x, o, l, rfl, rfl, ld, hl, ⟨vf, rfl, -, hf⟩, hr⟩ := ba6.objects.at hlt
      obtain ⟨x', o', l', rfl, rfl, ld', hl', ⟨vf', rfl, -, hf'⟩, hr'⟩ := bb6.objects.at hltb
      have t0 := hr.one (j := 0) rfl
      have t1 := hr.one (j := 1) rfl
      have t0' := hr'.one (j := 0) rfl
      have t1' := hr'.one (j := 1) rfl
      rw [Nat.add_zero] at t0 t0'
      simp only [iv] at t0 t0'
      have a3 := ba6.l3; have b3 := bb6.l3
      obtain ⟨pv, qv, kv, rfl, -⟩ := hf.shape
      obtain ⟨pv', qv', kv', rfl, -⟩ := hf'.shape
      have hne0 : a.objects[i] ≠ b.objects[i] → a ≠ b := fun hne e => ne_at hlt hltb hne (by rw [e])
      have heq0 : a.objects[i] = b.objects[i] → ∀ j (hj : j < a.objects.length), j < i + 1 → a.objects[j] = b.objects[j]'(by omega) := fun he j hj hj' => by
        by_cases e : j = i
        · subst e; exact he
        · exact hall j hj (by omega)
      generalize a.objects[i] = c at *
      generalize b.objects[i] = d at *
      by_cases c0 : c.cls = d.cls
      rotate_left
      · have c0' : (c.cls != d.cls) = true := by simpa using c0
        simp -implicitDefEqProofs only [g2, g3, g135, g136, hlt', hlt2, i0, a3, b3, t0, t0', c0', Bool.false_eq_true, go_sem]
        exact .inr ⟨hne0 fun e => c0 (by rw [e]), s6⟩
      have c0' : (c.cls != d.cls) = false := by simpa using c0
      simp -implicitDefEqProofs only [g2, g3, g135, g136, hlt', hlt2, i0, a3, b3, t0, t0', t1, t1', c0', Bool.false_eq_true, go_sem]
      refine CW.mono (c_eqPr (f := 41) rfl hf hf') ?_
      rintro w G ⟨rfl, rfl⟩
      by_cases c1 : c.fields = d.fields
      · have he := (UObj.eqI c d).2 ⟨c0, c1⟩
        simp -implicitDefEqProofs only [decide_eq_true c1, g2, g3, g135, g136, hlt', hlt2, i0, a3, b3, t0, t0', t1, t1', hw, Bool.false_eq_true, go_sem]
        exact ⟨a.objects.length - (i + 1), by omega, i + 1, rfl, by omega, heq0 he, rfl, s6⟩
      · simp -implicitDefEqProofs only [decide_eq_false c1, g2, g3, g135, g136, hlt', hlt2, i0, a3, b3, t0, t0', t1, t1', Bool.false_eq_true, go_sem]
        exact .inr ⟨hne0 fun e => c1 (by rw [e]), s6⟩
    · have hlt' : ¬ (i : Int) < (a.objects.length : Int) := by omega
      simp -implicitDefEqProofs only [g2, g3, g135, g136, hlt', Bool.false_eq_true, go_sem]
      exact .inl ⟨eq_all h3 fun j hj => hall j hj (by omega), s6⟩
  rintro ex fr H6 (⟨rfl, n3, s3⟩ | ⟨rfl, hne, g4, s3⟩)
  · have e := (UUnit.eqI a b).2 ⟨n0, n1, n2, n3, h4⟩
    simp -implicitDefEqProofs only [decide_eq_true e, go_sem]
    exact s12.trans s3
  · simp -implicitDefEqProofs only [g4, decide_eq_false hne, go_sem]
    exact s12.trans s3
set_option maxHeartbeats 4000000
section
variable {α : Type}
def OwR (lo : Nat) (enc : α → List AV) (ok : α → Prop) (s : Nat) (u : Option Nat) (H : AHeap) (xs : List α) (v : AV) : Prop :=
  xs.length ≤ maxLen ∧ ((xs = [] ∧ ∃ s0 cl, v = .slice none s0 0 cl) ∨ ∃ z cl cs, v = .slice (some (z, 0)) s xs.length cl ∧ lo ≤ z ∧ u ≠ some z ∧ Arr H z cs (fun _ => False) ∧ cs.length = xs.length * s ∧ ∀ j (hj : j < xs.length), (cs.drop (j * s)).take s = enc xs[j] ∧ ok xs[j])
variable {lo s : Nat} {enc : α → List AV} {ok : α → Prop} {u : Option Nat} {H : AHeap} {xs : List α} {v : AV}
theorem OwR.slE (h : OwR lo enc ok s u H xs v) : SlE (EncE enc ok) s H xs [v] := by
  obtain ⟨hm, ⟨rfl, s0, cl, rfl⟩ | ⟨z, cl, cs, rfl, h1, h2, h3, h4, h5⟩⟩ := h
  · exact ⟨none, s0, cl, rfl, .inl rfl, hm, fun h => absurd rfl h⟩
  · exact ⟨_, _, _, rfl, .inr rfl, hm, fun _ => ⟨z, 0, cs, rfl, h3.rd, h4, h5⟩⟩
theorem OwR.keep (h : OwR lo enc ok s u H xs v) {H' : AHeap} {u' : Option Nat} (hl : H.next ≤ H'.next) (hg : ∀ z, lo ≤ z → z < H.next → u ≠ some z → H'.get z = H.get z) (hu : ∀ z, u' = some z → H.next ≤ z ∨ u = some z) : OwR lo enc ok s u' H' xs v := by
  obtain ⟨hm, ⟨rfl, s0, cl, rfl⟩ | ⟨z, cl, cs, rfl, h1, h2, h3, h4, h5⟩⟩ := h
  · exact ⟨hm, .inl ⟨rfl, s0, cl, rfl⟩⟩
  · refine ⟨hm, .inr ⟨z, cl, cs, rfl, h1, fun e => ?_, h3.keep hl (hg z h1 h3.1 h2), h4, h5⟩⟩
    rcases hu z e with h | h
    · have := h3.1; omega
    · exact h2 h
theorem OwR.low (h : OwR lo enc ok s u H xs v) {lo' : Nat} (hl : lo' ≤ lo) : OwR lo' enc ok s u H xs v := by
  obtain ⟨hm, h | ⟨z, cl, cs, rfl, h1, h2⟩⟩ := h
  · exact ⟨hm, .inl h⟩
  · exact ⟨hm, .inr ⟨z, cl, cs, rfl, by omega, h2⟩⟩
theorem OwR.of {n0 : Nat} (h : SlE (EncE enc ok) s H xs [v]) (ho : OwS n0 H s xs.length v) (hn : n0 ≤ H.next) (hu : ∀ z, u = some z → z < n0) : OwR n0 enc ok s u H xs v := by
  refine ⟨h.max, ?_⟩
  rcases ho with ⟨h0, s0, cl, rfl⟩ | ⟨x, cl, cs, rfl, h1, h2, h3⟩
  · exact .inl ⟨List.eq_nil_of_length_eq_zero h0, s0, cl, rfl⟩
  · refine .inr ⟨x, cl, cs, rfl, h1, fun e => by have := hu x e; omega, h3, h2, ?_⟩
    by_cases h0 : xs.length = 0
    · intro j hj; omega
    · obtain ⟨a, s0, cl', e, -, -, k⟩ := h
      obtain ⟨x', o, cs', rfl, hr, hl, hj⟩ := k h0
      cases e
      have : cs = cs' := by
        obtain ⟨-, c, par, hc, hf, -⟩ := h3
        obtain ⟨-, c', k', own, par', hc', -, hf'⟩ := hr
        rw [hc] at hc'
        injection hc' with e1 e2 e3 e4
        subst e1
        refine List.ext_getElem (by omega) fun j h1 h2 => ?_
        have a1 := hf j cs[j] (List.getElem?_eq_getElem h1)
        have a2 := hf' j cs'[j] (List.getElem?_eq_getElem h2)
        rw [Nat.zero_add] at a2
        rw [a1] at a2
        exact Option.some.inj a2
      subst this
      exact hj
def OMono (lo : Nat) (E : Option Nat → Rep α) : Prop := ∀ H H' u u' a l, E u H a l → H.next ≤ H'.next → (∀ z, lo ≤ z → z < H.next → u ≠ some z → H'.get z = H.get z) → (∀ z, u' = some z → H.next ≤ z ∨ u = some z) → E u' H' a l
def GrS (lo : Nat) (E : Option Nat → Rep α) (s : Nat) (H : AHeap) (xs : List α) (v : AV) : Prop :=
  ∃ cs, Gw H s v xs.length cs (fun z => lo ≤ z ∧ z < H.next) ∧ ∀ j (hj : j < xs.length), E (ub v) H xs[j] ((cs.drop (j * s)).take s)
theorem GrS.nil {E : Option Nat → Rep α} : GrS lo E s H [] (.slice none 1 0 true) := ⟨[], ⟨by simp, .inl ⟨1, rfl, rfl⟩⟩, fun j hj => absurd hj (by simp)⟩
theorem GrS.keep {E : Option Nat → Rep α} (hE : OMono lo E) (h : GrS lo E s H xs v) {H' : AHeap} (hl : H.next ≤ H'.next) (hg : ∀ z, lo ≤ z → z < H.next → H'.get z = H.get z) : GrS lo E s H' xs v := by
  obtain ⟨cs, h1, h2⟩ := h
  exact ⟨cs, (h1.keep hl fun y hy => by
    have := h1.ubP hy
    exact hg y this.1 this.2).mono fun y hy => ⟨hy.1, by have := hy.2; omega⟩, fun j hj => hE _ _ _ _ _ _ (h2 j hj) hl (fun z h1 h2 _ => hg z h1 h2) fun z hz => .inr hz⟩
theorem GrS.push {E : Option Nat → Rep α} (hE : OMono lo E) (h : GrS lo E s H xs v) (hlo : lo ≤ H.next) {a : α} {ys : List AV} (ha : E (ub v) H a ys) (hys : ys.length = s) {bytes : Nat} (hb : (xs.length + 1) * bytes ≤ 140737488355328) (hm : xs.length + 1 ≤ 140737488355328) :
    ∃ H2, appendF (H.newRow ys) s bytes false v (.slice (some (H.next, 0)) s 1 true) = some (.slice (some (H.next + 1, 0)) s (xs.length + 1) false, H2) ∧ H2.next = H.next + 2 ∧ Chg H H2 (ub v) ∧ GrS lo E s H2 (xs ++ [a]) (.slice (some (H.next + 1, 0)) s (xs.length + 1) false) := by
  obtain ⟨cs, h1, h2⟩ := h
  obtain ⟨H2, e1, e2, e3, e4⟩ := h1.push (fun z hz => hz.2) hys hb hm
  have hen : (xs ++ [a]).length = xs.length + 1 := by simp
  refine ⟨H2, e1, e2, e3, cs ++ ys, ?_, fun j hj => ?_⟩
  · rw [hen]
    exact e4.mono fun z hz => by rcases hz with hz | rfl <;> omega
  · have hcl := h1.1
    have kp : ∀ b l, E (ub v) H b l → E (some (H.next + 1)) H2 b l := fun b l hb => hE _ _ _ _ _ _ hb (by omega) (fun z z1 z2 z3 => e3.keep z2 z3) fun z hz => .inl (by have := Option.some.inj hz; omega)
    show E (some (H.next + 1)) H2 _ _
    by_cases hlt : j < xs.length
    · have hle : (j + 1) * s ≤ xs.length * s := Nat.mul_le_mul_right s (by omega)
      rw [Nat.add_mul, Nat.one_mul] at hle
      have e : ((cs ++ ys).drop (j * s)).take s = (cs.drop (j * s)).take s := by
        rw [List.drop_append_of_le_length (by omega), List.take_append_of_le_length (by simp; omega)]
      rw [e, List.getElem_append_left hlt]
      exact kp _ _ (h2 j hlt)
    · have hj' : j = xs.length := by omega
      subst hj'
      have e : ((cs ++ ys).drop (xs.length * s)).take s = ys := by
        rw [← hcl, List.drop_left, List.take_of_length_le (by omega)]
      rw [e, List.getElem_append_right (Nat.le_refl _)]
      simp only [Nat.sub_self, List.getElem_cons_zero]
      exact kp _ _ ha
theorem GrS.slE {E : Option Nat → Rep α} {F : Rep α} (hF : ∀ u a l, E u H a l → F H a l) (h : GrS lo E s H xs v) (hm : xs.length ≤ maxLen) : SlE F s H xs [v] := by
  obtain ⟨cs, h1, h2⟩ := h
  exact h1.sl.slE rfl hm fun j hj => hF _ _ _ (h2 j hj)
end
def ClO (lo : Nat) (u : Option Nat) : Rep UClass := fun H c l => ∃ v, l = [.str c.name, iv c.super, iv c.fields, v] ∧ stOk c.name ∧ I64 c.super ∧ I64 c.fields ∧ OwR lo prC prOk 2 u H c.binds v
def MeO (lo : Nat) (u : Option Nat) : Rep UMethod := fun H m l => ∃ v w, l = [iv m.args, iv m.temps, v, w] ∧ I64 m.args ∧ I64 m.temps ∧ OwR lo prC prOk 2 u H m.lits v ∧ OwR lo byC byOk 1 u H m.code w
def ObO (lo : Nat) (u : Option Nat) : Rep UObj := fun H o l => ∃ v, l = [iv o.cls, v] ∧ I64 o.cls ∧ OwR lo prC prOk 2 u H o.fields v
theorem ClO.mono {lo : Nat} : OMono lo (ClO lo) := fun H H' u u' a l ⟨v, e, h1, h2, h3, h4⟩ k1 k2 k3 => ⟨v, e, h1, h2, h3, h4.keep k1 k2 k3⟩
theorem MeO.mono {lo : Nat} : OMono lo (MeO lo) := fun H H' u u' a l ⟨v, w, e, h1, h2, h3, h4⟩ k1 k2 k3 => ⟨v, w, e, h1, h2, h3.keep k1 k2 k3, h4.keep k1 k2 k3⟩
theorem ObO.mono {lo : Nat} : OMono lo (ObO lo) := fun H H' u u' a l ⟨v, e, h1, h2⟩ k1 k2 k3 => ⟨v, e, h1, h2.keep k1 k2 k3⟩
theorem ClO.cl {lo : Nat} {H : AHeap} (u : Option Nat) (a : UClass) (l : List AV) (h : ClO lo u H a l) : ClE H a l := by
  obtain ⟨v, e, h1, h2, h3, h4⟩ := h
  exact ⟨v, e, h1, h2, h3, h4.slE⟩
theorem MeO.me {lo : Nat} {H : AHeap} (u : Option Nat) (a : UMethod) (l : List AV) (h : MeO lo u H a l) : MeE H a l := by
  obtain ⟨v, w, e, h1, h2, h3, h4⟩ := h
  exact ⟨v, w, e, h1, h2, h3.slE, h4.slE⟩
theorem ObO.ob {lo : Nat} {H : AHeap} (u : Option Nat) (a : UObj) (l : List AV) (h : ObO lo u H a l) : ObE H a l := by
  obtain ⟨v, e, h1, h2⟩ := h
  exact ⟨v, e, h1, h2.slE⟩
structure BndU (u : UUnit) : Prop where
  n : u.names.length * 16 ≤ 140737488355328
  c : u.classes.length * 56 ≤ 140737488355328
  m : u.methods.length * 64 ≤ 140737488355328
  o : u.objects.length * 32 ≤ 140737488355328
  cb : ∀ c, c ∈ u.classes → c.binds.length * 16 ≤ 140737488355328
  ml : ∀ m, m ∈ u.methods → m.lits.length * 16 ≤ 140737488355328
  mc : ∀ m, m ∈ u.methods → m.code.length * 1 ≤ 140737488355328
  of : ∀ o, o ∈ u.objects → o.fields.length * 16 ≤ 140737488355328
theorem store_own (H : AHeap) (zs vs : List AV) (hl : vs.length = zs.length) : ∃ H2, storeA (H.newRow zs) H.next 0 vs = some H2 ∧ H2.next = H.next + 1 ∧ Sm H H2 ∧ Arr H2 H.next vs fun _ => False := by
  have a1 := Arr.newRow H zs fun _ => False
  have s1 := Chg.newRow H zs
  have hn1 : (H.newRow zs).next = H.next + 1 := rfl
  generalize H.newRow zs = H1 at a1 s1 hn1
  have es : vs = setAt zs 0 vs := by
    unfold setAt
    rw [List.take_zero, List.nil_append, List.drop_eq_nil_of_le (by omega), List.append_nil]
  obtain ⟨Hc, e1, n1, b1, g1⟩ := a1.store (vs := vs) (o := 0) (by omega) es
  exact ⟨Hc, e1, by omega, Sm.of (by rw [n1]; exact s1.1) fun x hx => by rw [g1 _ (by omega) (fun h => h), s1.gt hx], b1⟩
theorem Arr.sm {H H' : AHeap} {x : Nat} {cs : List AV} {P : Nat → Prop} (h : Arr H x cs P) (s : Sm H H') : Arr H' x cs P := h.keep s.1 (s.gt h.1)
set_option maxHeartbeats 4000000
def KpM (m : Nat) (H H' : AHeap) : Prop := H.next ≤ H'.next ∧ ∀ z, m ≤ z → z < H.next → H'.get z = H.get z
theorem KpM.trans {m : Nat} {H H1 H2 : AHeap} (h : KpM m H H1) (h' : KpM m H1 H2) : KpM m H H2 := ⟨Nat.le_trans h.1 h'.1, fun z h1 h2 => by rw [h'.2 z h1 (Nat.lt_of_lt_of_le h2 h.1), h.2 z h1 h2]⟩
theorem KpM.refl {m : Nat} (H : AHeap) : KpM m H H := ⟨Nat.le_refl _, fun _ _ _ => rfl⟩
theorem Sm.kp {m : Nat} {H H' : AHeap} (h : Sm H H') : KpM m H H' := ⟨h.1, fun z _ h2 => h.gt h2⟩
theorem KpM.up {m m' : Nat} {H H' : AHeap} (h : KpM m H H') (hm : m ≤ m') : KpM m' H H' := ⟨h.1, fun z h1 h2 => h.2 z (by omega) h2⟩
theorem GrS.kp {α : Type} {lo m s : Nat} {H H' : AHeap} {xs : List α} {v : AV} {E : Option Nat → Rep α} (hE : OMono lo E) (h : GrS lo E s H xs v) (hm : m ≤ lo) (k : KpM m H H') : GrS lo E s H' xs v := h.keep hE k.1 fun z h1 h2 => k.2 z (by omega) h2
def CpR (H0 H' : AHeap) (u : UUnit) (cu : List AV) : Prop := ∃ lo H1 H2 H3 v1 v2 v3 v4, cu = [v1, v2, v3, v4, iv u.main] ∧ I64 u.main ∧ H0.next ≤ lo ∧ lo ≤ H1.next ∧ Sm H0 H' ∧ OwR lo stC stOk 1 none H1 u.names v1 ∧ KpM lo H1 H' ∧ GrS H1.next (ClO H1.next) 4 H2 u.classes v2 ∧ H1.next ≤ H2.next ∧ KpM H1.next H2 H3 ∧ GrS H2.next (MeO H2.next) 4 H3 u.methods v3 ∧ KpM H1.next H3 H' ∧ GrS H3.next (ObO H3.next) 2 H' u.objects v4 ∧ u.classes.length ≤ maxLen ∧ u.methods.length ≤ maxLen ∧ u.objects.length ≤ maxLen
theorem OwR.kp {α : Type} {enc : α → List AV} {ok : α → Prop} {lo m s : Nat} {u : Option Nat} {H H' : AHeap} {xs : List α} {v : AV} (h : OwR lo enc ok s u H xs v) (hm : m ≤ lo) (k : KpM m H H') : OwR lo enc ok s u H' xs v := h.keep k.1 (fun z h1 h2 _ => k.2 z (by omega) h2) fun z hz => .inr hz
theorem CpR.un {H0 H' : AHeap} {u : UUnit} {cu : List AV} (h : CpR H0 H' u cu) : UnE H' u cu := by
  obtain ⟨lo, H1, H2, H3, v1, v2, v3, v4, rfl, hm, -, -, s, o1, k1, g2, l2, k23, g3, k3, g4, m2, m3, m4⟩ := h
  exact ⟨v1, v2, v3, v4, rfl, hm, (o1.kp (Nat.le_refl _) k1).slE, (g2.kp ClO.mono (Nat.le_refl _) (k23.trans k3)).slE ClO.cl m2, (g3.kp MeO.mono (by omega) k3).slE MeO.me m3, g4.slE ObO.ob m4⟩
theorem CpR.sm {H0 H' : AHeap} {u : UUnit} {cu : List AV} (h : CpR H0 H' u cu) : Sm H0 H' := by
  obtain ⟨lo, H1, H2, H3, v1, v2, v3, v4, rfl, hm, -, -, s, -⟩ := h
  exact s
theorem take_suc {α : Type} {l : List α} {i : Nat} (h : i < l.length) : l.take (i + 1) = l.take i ++ [l[i]] := (List.take_append_getElem h).symm
theorem c_Copy {H : AHeap} {u : UUnit} {cu : List AV} (hu : UnE H u cu) (hb : BndU u) : CW MN 38 [.agg cu] H fun w H' => ∃ cs, w = .agg cs ∧ CpR H H' u cs := by
  refine CW_of (fn := af38) rfl ?_
  dsimp only [af38, qm, q, qG, qn, qi, qb, qB, qk, qc, qo, qg, qv, qr]
  obtain ⟨v1, v2, v3, v4, bu, rfl⟩ := BoxU.of hu
  have s1 := Chg.newRow H [v1, v2, v3, v4, .int .i64 u.main]
  have hn1 : (H.newRow [v1, v2, v3, v4, .int .i64 u.main]).next = H.next + 1 := rfl
  generalize eH1 : H.newRow [v1, v2, v3, v4, .int .i64 u.main] = G1 at bu s1 hn1
  have hmain : I64 u.main := by
    obtain ⟨_, _, _, _, -, h, -⟩ := hu
    exact h
  -- the block of the result
  have sr := Chg.newRow G1 [.slice none 1 0 true, .slice none 1 0 true, .slice none 1 0 true, .slice none 1 0 true, .int .i64 0]
  have ar := Arr.newRow G1 [.slice none 1 0 true, .slice none 1 0 true, .slice none 1 0 true, .slice none 1 0 true, .int .i64 0] fun _ => False
  have hnr : (G1.newRow [.slice none 1 0 true, .slice none 1 0 true, .slice none 1 0 true, .slice none 1 0 true, .int .i64 0]).next = G1.next + 1 := rfl
  generalize eHr : G1.newRow [.slice none 1 0 true, .slice none 1 0 true, .slice none 1 0 true, .slice none 1 0 true, .int .i64 0] = G2 at sr ar hnr
  have bu := bu.sm sr
  have l0 := bu.l0
  have l4 := bu.l4
  have sg := Chg.newRow G2 [.slice none 1 0 true, .slice none 1 0 true, .slice none 1 0 true, .slice none 1 0 true, .int .i64 0]
  have ag := Arr.newRow G2 [.slice none 1 0 true, .slice none 1 0 true, .slice none 1 0 true, .slice none 1 0 true, .int .i64 0] fun _ => False
  have hng : (G2.newRow [.slice none 1 0 true, .slice none 1 0 true, .slice none 1 0 true, .slice none 1 0 true, .int .i64 0]).next = G2.next + 1 := rfl
  generalize eHg : G2.newRow [.slice none 1 0 true, .slice none 1 0 true, .slice none 1 0 true, .slice none 1 0 true, .int .i64 0] = Gr at sg ag hng
  have bug := bu.sm sg
  have l0g := bug.l0
  have l4g := bug.l4
  simp -implicitDefEqProofs only [eH1, eHr, l0, eHg, go_sem]
  refine CW.mono (c_clone (f := 68) (s := 1) (bytes := 16) rfl MonoE.enc bug.names hb.n (by omega)) ?_
  rintro w G0 ⟨s3, e3, o3⟩
  simp -implicitDefEqProofs only [go_sem]
  refine CW.mono (c_clip (f := 67) (s := 1) rfl e3) ?_
  rintro w1 G3 ⟨rfl, e3', o3'⟩
  have ow0 : OwR Gr.next stC stOk 1 none G3 u.names w1 := OwR.of e3' (o3' _ o3) s3.1 (by simp)
  have bu3 := bug.sm s3
  have l0' := bu3.l0
  have l4' := bu3.l4
  have k1 := e3'.shape
  obtain ⟨p1, q1, c1, rfl, -⟩ := k1
  obtain ⟨a1, z1, d1, rfl, -⟩ := bu3.names.shape
  obtain ⟨G4, e4, n4, a4, g4⟩ := (ag.sm s3).store (o := 0) (vs := [.slice p1 q1 u.names.length c1, .slice none 1 0 true, .slice none 1 0 true, .slice none 1 0 true, .int .i64 u.main]) (cs' := [.slice p1 q1 u.names.length c1, .slice none 1 0 true, .slice none 1 0 true, .slice none 1 0 true, .int .i64 u.main]) (by simp) rfl
  have g4' : ∀ z, z ≠ G2.next → G4.get z = G3.get z := fun z hz => g4 z hz (fun h => h)
  have hgr3 : Gr.next ≤ G3.next := s3.1
  have s4 : Sm G2 G4 := Sm.of (by omega) fun z hz => by rw [g4' z (by omega), s3.gt (by omega), sg.gt hz]
  have ow1 : OwR (G2.next + 1) stC stOk 1 none G4 u.names (.slice p1 q1 u.names.length c1) := (ow0.keep (by omega) (fun z z1 z2 _ => g4' z (by omega)) fun z hz => by cases hz).low (by omega)
  have bu4 := bu.sm s4
  have l1 := bu4.l1
  obtain ⟨a2, z2, d2, rfl, -⟩ := bu4.classes.shape
  have mx2 := bu4.classes.max
  simp -implicitDefEqProofs only [eH1, eHr, eHg, l0, l4, l0g, l4g, l0', l4', e4, l1, go_sem]
  have hlt23 : G2.next + 1 ≤ G4.next := by omega
  have hn12 : G1.next < G2.next := by omega
  have su3 : Sm H G2 := s1.trans sr
  have bu := bu
  clear eH1 eHr eHg e4 bu3 bu4 l0 l4 l0' l4' l0g l4g l1 e3 o3 o3' ow0 ag
  generalize hb3 : G2.next = b3 at *
  -- the classes
  refine WP_mono (Q := fun ex fr H' => ex = .exit 0 ∧ fr.get 1 = some (.ptr (some (H.next, 0))) ∧ fr.get 3 = some (.ptr (some (b3, 0))) ∧ fr.get 2 = some (.ptr (some (G1.next, 0))) ∧ ∃ vc, Arr H' b3 [.slice p1 q1 u.names.length c1, vc, .slice none 1 0 true, .slice none 1 0 true, .int .i64 u.main] (fun _ => False) ∧ GrS G4.next (ClO G4.next) 4 H' u.classes vc ∧ Sm G2 H' ∧ KpM (b3 + 1) G4 H') ?_ (WP_loop (fun n fr H' => ∃ i : Nat, n = u.classes.length - i ∧ i ≤ u.classes.length ∧ fr.get 1 = some (.ptr (some (H.next, 0))) ∧ fr.get 3 = some (.ptr (some (b3, 0))) ∧ fr.get 2 = some (.ptr (some (G1.next, 0))) ∧ fr.get 18 = some (.slice a2 z2 u.classes.length d2) ∧ fr.get 19 = some (.int .i64 u.classes.length) ∧ fr.get 20 = some (.int .i64 i) ∧ ∃ vc, Arr H' b3 [.slice p1 q1 u.names.length c1, vc, .slice none 1 0 true, .slice none 1 0 true, .int .i64 u.main] (fun _ => False) ∧ GrS G4.next (ClO G4.next) 4 H' (u.classes.take i) vc ∧ Sm G2 H' ∧ KpM (b3 + 1) G4 H') u.classes.length ?_ ?_)
  rotate_left
  · refine ⟨0, rfl, by omega, ?_⟩
    simp -implicitDefEqProofs only [go_sem]
    exact ⟨_, a4, GrS.nil, s4, KpM.refl _⟩
  · rintro n fr Hc ⟨i, hn, hi, g1, g3, g2, g18, g19, g20, vc, a3, gr, sc, mc⟩
    have i0 : (0 : Int) ≤ (i : Int) := by omega
    have mcl := mc.1
    by_cases hlt : i < u.classes.length
    · have hlt' : (i : Int) < (u.classes.length : Int) := by omega
      have hw := wrapS hlt mx2
      have hbb := hb.cb _ (List.getElem_mem hlt)
      obtain ⟨x, o, vb, rfl, rfl, ld, -, -, -, -, hvb, hn1', hsu, hfi, -⟩ := ClE.at (bu.sm sc).classes hlt
      have htk := take_suc hlt
      have hlen : (u.classes.take i).length = i := by simp; omega
      generalize u.classes[i] = c at *
      obtain ⟨Ha, f1, na, sa, a5⟩ := store_own Hc [.str [], .int .i64 0, .int .i64 0, .slice none 1 0 true] [.str c.name, iv c.super, iv c.fields, vb] rfl
      have l3 := a5.rd.one (j := 3) rfl
      rw [Nat.zero_add] at l3
      simp only [iv] at ld f1 a5
      simp -implicitDefEqProofs only [g1, g2, g3, g18, g19, g20, hlt', i0, ld, f1, l3, go_sem]
      refine CW.mono (c_clone (f := 70) (s := 2) (bytes := 16) rfl MonoE.enc (MonoE.enc.sl _ _ _ _ hvb sa) hbb (by omega)) ?_
      rintro w Hb0 ⟨sb, e1, o1⟩
      simp -implicitDefEqProofs only [go_sem]
      refine CW.mono (c_clip (f := 69) (s := 2) rfl e1) ?_
      rintro w' Hb ⟨rfl, e2, o2⟩
      obtain ⟨pw, qw, cw, rfl, -⟩ := e2.shape
      have a5' := a5.sm sb
      obtain ⟨Hd, f2, nd, a6, gd⟩ := a5'.store (o := 3) (vs := [(.slice pw qw c.binds.length cw)]) (cs' := [.str c.name, .int .i64 c.super, .int .i64 c.fields, (.slice pw qw c.binds.length cw)]) (by simp) rfl
      have scd : Sm Hc Hd := Sm.of (by have := sa.1; have := sb.1; omega) fun z hz => by rw [gd z (by omega) (fun h => h), sb.gt (by omega), sa.gt hz]
      have scl : Hc.next ≤ Hd.next := scd.1
      have a3d := a3.sm scd
      have l31 := a3d.rd.one (j := 1) rfl
      have l4c := a6.rd.load (n := 4) rfl
      rw [Nat.zero_add] at l31
      have hub : ∀ z, ub vc = some z → z < Hc.next := fun z hz => by
        obtain ⟨cs, q1, -⟩ := gr
        exact (q1.ubP hz).2
      have hub' : ∀ z, ub vc = some z → G4.next ≤ z := fun z hz => by
        obtain ⟨cs, q1, -⟩ := gr
        exact (q1.ubP hz).1
      have hel : ClO G4.next (ub vc) Hd c [.str c.name, .int .i64 c.super, .int .i64 c.fields, (.slice pw qw c.binds.length cw)] := by
        refine ⟨.slice pw qw c.binds.length cw, rfl, hn1', hsu, hfi, ?_⟩
        have q := OwR.of (u := ub vc) e2 (o2 _ o1) sb.1 (fun z hz => by have := hub z hz; omega)
        exact (q.keep (by omega) (fun z z1 z2 _ => gd z (by omega) (fun h => h)) fun z hz => .inr hz).low (by omega)
      have grd := gr.kp ClO.mono (Nat.le_refl _) (scd.kp (m := G4.next))
      have hcb := hb.c
      obtain ⟨He, f3, ne, che, gre⟩ := grd.push ClO.mono (by have := scd.1; omega) hel rfl (bytes := 56) (by rw [hlen]; omega) (by rw [hlen]; omega)
      rw [hlen, ← htk] at gre
      rw [hlen] at f3
      have nne : Hd.next ≤ He.next := by omega
      have a3e := a3d.keep nne (che.keep a3d.1 fun h => by have := hub' b3 h; omega)
      obtain ⟨Hf, f4, nf, a3f, gf⟩ := a3e.store (o := 1) (vs := [.slice (some (Hd.next + 1, 0)) 4 (i + 1) false]) (cs' := [.slice p1 q1 u.names.length c1, .slice (some (Hd.next + 1, 0)) 4 (i + 1) false, .slice none 1 0 true, .slice none 1 0 true, .int .i64 u.main]) (by simp) rfl
      have hnd : (Hd.newRow [.str c.name, .int .i64 c.super, .int .i64 c.fields, (.slice pw qw c.binds.length cw)]).next = Hd.next + 1 := rfl
      simp -implicitDefEqProofs only [g1, g2, g3, g18, g19, g20, f2, l31, l4c, f3, f4, hw, go_sem]
      refine ⟨u.classes.length - (i + 1), by omega, i + 1, rfl, by omega, rfl, _, a3f, gre.kp ClO.mono (Nat.le_refl _) ⟨by omega, fun z z1 z2 => gf z (by omega) (fun h => h)⟩, ?_, ⟨by omega, fun z z1 z2 => ?_⟩⟩
      · refine Sm.of (by have := sc.1; omega) fun z hz => ?_
        rw [hb3] at hz
        rw [gf z (by omega) (fun h => h), che.keep (by omega) (fun h => by have := hub' z h; omega), scd.gt (by omega), sc.gt (by omega)]
      · rw [gf z (by omega) (fun h => h), che.keep (by omega) (fun h => by have := hub' z h; omega), scd.gt (by omega), mc.2 z z1 z2]
    · have hlt' : ¬ (i : Int) < (u.classes.length : Int) := by omega
      rw [List.take_of_length_le (by omega)] at gr
      simp -implicitDefEqProofs only [g1, g2, g3, g18, g19, g20, hlt', Bool.false_eq_true, go_sem]
      exact ⟨_, a3, gr, sc, mc⟩
  rintro ex fr K2 ⟨rfl, g1, g3, g2, vc, a3, gr2, sc, mc⟩
  have bu2 := bu.sm sc
  have hmc := mc.1
  have l2 := bu2.l2
  obtain ⟨a33, z3, d3, rfl, -⟩ := bu2.methods.shape
  have mx3 := bu2.methods.max
  simp -implicitDefEqProofs only [g1, g3, g2, l2, go_sem]
  -- the methods
  refine WP_mono (Q := fun ex fr H' => ex = .exit 2 ∧ fr.get 1 = some (.ptr (some (H.next, 0))) ∧ fr.get 3 = some (.ptr (some (b3, 0))) ∧ fr.get 2 = some (.ptr (some (G1.next, 0))) ∧ ∃ vm, Arr H' b3 [.slice p1 q1 u.names.length c1, vc, vm, .slice none 1 0 true, .int .i64 u.main] (fun _ => False) ∧ GrS K2.next (MeO K2.next) 4 H' u.methods vm ∧ KpM (b3 + 1) K2 H' ∧ Sm G2 H') ?_ (WP_loop (fun n fr H' => ∃ i : Nat, n = u.methods.length - i ∧ i ≤ u.methods.length ∧ fr.get 1 = some (.ptr (some (H.next, 0))) ∧ fr.get 3 = some (.ptr (some (b3, 0))) ∧ fr.get 2 = some (.ptr (some (G1.next, 0))) ∧ fr.get 37 = some (.slice a33 z3 u.methods.length d3) ∧ fr.get 38 = some (.int .i64 u.methods.length) ∧ fr.get 39 = some (.int .i64 i) ∧ ∃ vm, Arr H' b3 [.slice p1 q1 u.names.length c1, vc, vm, .slice none 1 0 true, .int .i64 u.main] (fun _ => False) ∧ GrS K2.next (MeO K2.next) 4 H' (u.methods.take i) vm ∧ KpM (b3 + 1) K2 H' ∧ Sm G2 H') u.methods.length ?_ ?_)
  rotate_left
  · refine ⟨0, rfl, by omega, ?_⟩
    simp -implicitDefEqProofs only [g1, g2, g3, go_sem]
    exact ⟨_, a3, GrS.nil, KpM.refl _, sc⟩
  · rintro n fr Hc ⟨i, hn, hi, g1, g3, g2, g37, g38, g39, vm, a3, gr, kc, sc⟩
    have i0 : (0 : Int) ≤ (i : Int) := by omega
    have kcl := kc.1
    by_cases hlt : i < u.methods.length
    · have hlt' : (i : Int) < (u.methods.length : Int) := by omega
      have hw := wrapS hlt mx3
      have hbl := hb.ml _ (List.getElem_mem hlt)
      have hbc := hb.mc _ (List.getElem_mem hlt)
      obtain ⟨x, o, r, rfl, rfl, ld, -, ⟨vl', wl, rfl, hm1, hm2, hvl, hwl⟩, -⟩ := (bu.sm sc).methods.at hlt
      have htk := take_suc hlt
      have hlen : (u.methods.take i).length = i := by simp; omega
      generalize u.methods[i] = c at *
      obtain ⟨Ha, f1, na, sa, a5⟩ := store_own Hc [.int .i64 0, .int .i64 0, .slice none 1 0 true, .slice none 1 0 true] [iv c.args, iv c.temps, vl', wl] rfl
      have l2 := a5.rd.one (j := 2) rfl
      rw [Nat.zero_add] at l2
      simp only [iv] at ld f1 a5
      obtain ⟨pl, ql, cl, rfl, -⟩ := hvl.shape
      obtain ⟨pc, qc, cc, rfl, -⟩ := hwl.shape
      simp -implicitDefEqProofs only [g1, g2, g3, g37, g38, g39, hlt', i0, ld, f1, l2, go_sem]
      refine CW.mono (c_clone (f := 72) (s := 2) (bytes := 16) rfl MonoE.enc (MonoE.enc.sl _ _ _ _ hvl sa) hbl (by omega)) ?_
      rintro w Hb0 ⟨sb, e1, o1⟩
      simp -implicitDefEqProofs only [go_sem]
      refine CW.mono (c_clip (f := 71) (s := 2) rfl e1) ?_
      rintro w' Hb ⟨rfl, e2, o2⟩
      obtain ⟨pw, qw, cw, rfl, -⟩ := e2.shape
      have a5b := a5.sm sb
      have l3 := a5b.rd.one (j := 3) rfl
      have l3a := a5.rd.one (j := 3) rfl
      rw [Nat.zero_add] at l3 l3a
      simp -implicitDefEqProofs only [l3, go_sem]
      refine CW.mono (c_clone (f := 62) (s := 1) (bytes := 1) rfl MonoE.enc (MonoE.enc.sl _ _ _ _ hwl (sa.trans sb)) hbc (by omega)) ?_
      rintro w Hb1 ⟨sb', e3, o3⟩
      simp -implicitDefEqProofs only [go_sem]
      refine CW.mono (c_clip (f := 34) (s := 1) rfl e3) ?_
      rintro w' He ⟨rfl, e4, o4⟩
      obtain ⟨px, qx, cx, rfl, -⟩ := e4.shape
      have a5' := a5b.sm sb'
      obtain ⟨Hd, f2, nd, a6, gd⟩ := a5'.store (o := 2) (vs := [.slice pw qw c.lits.length cw]) (cs' := [.int .i64 c.args, .int .i64 c.temps, .slice pw qw c.lits.length cw, .slice pc qc c.code.length cc]) (by simp) rfl
      obtain ⟨Hg, f3, ng, a7, gg⟩ := a6.store (o := 3) (vs := [.slice px qx c.code.length cx]) (cs' := [.int .i64 c.args, .int .i64 c.temps, .slice pw qw c.lits.length cw, .slice px qx c.code.length cx]) (by simp) rfl
      have la := sa.1; have lb := sb.1; have lb' := sb'.1
      have scd : Sm Hc Hg := Sm.of (by omega) fun z hz => by rw [gg z (by omega) (fun h => h), gd z (by omega) (fun h => h), sb'.gt (by omega), sb.gt (by omega), sa.gt hz]
      have scl : Hc.next ≤ Hg.next := scd.1
      have a3d := a3.sm scd
      have l31 := a3d.rd.one (j := 2) rfl
      have l4c := a7.rd.load (n := 4) rfl
      rw [Nat.zero_add] at l31
      have hub : ∀ z, ub vm = some z → z < Hc.next := fun z hz => by
        obtain ⟨cs, q1, -⟩ := gr
        exact (q1.ubP hz).2
      have hub' : ∀ z, ub vm = some z → K2.next ≤ z := fun z hz => by
        obtain ⟨cs, q1, -⟩ := gr
        exact (q1.ubP hz).1
      have hel : MeO K2.next (ub vm) Hg c [.int .i64 c.args, .int .i64 c.temps, .slice pw qw c.lits.length cw, .slice px qx c.code.length cx] := by
        refine ⟨_, _, rfl, hm1, hm2, ?_, ?_⟩
        · have q := OwR.of (u := ub vm) e2 (o2 _ o1) sb.1 (fun z hz => by have := hub z hz; omega)
          exact (q.keep (by omega) (fun z z1 z2 _ => by rw [gg z (by omega) (fun h => h), gd z (by omega) (fun h => h), sb'.gt z2]) fun z hz => .inr hz).low (by omega)
        · have q := OwR.of (u := ub vm) e4 (o4 _ o3) sb'.1 (fun z hz => by have := hub z hz; omega)
          exact (q.keep (by omega) (fun z z1 z2 _ => by rw [gg z (by omega) (fun h => h), gd z (by omega) (fun h => h)]) fun z hz => .inr hz).low (by omega)
      have grd := gr.kp MeO.mono (Nat.le_refl _) (scd.kp (m := K2.next))
      have hcb := hb.m
      obtain ⟨Hh, f4, ne, che, gre⟩ := grd.push MeO.mono (by omega) hel rfl (bytes := 64) (by rw [hlen]; omega) (by rw [hlen]; omega)
      rw [hlen, ← htk] at gre
      rw [hlen] at f4
      have nne : Hg.next ≤ Hh.next := by omega
      have a3e := a3d.keep nne (che.keep a3d.1 fun h => by have := hub' b3 h; omega)
      obtain ⟨Hf, f5, nf, a3f, gf⟩ := a3e.store (o := 2) (vs := [.slice (some (Hg.next + 1, 0)) 4 (i + 1) false]) (cs' := [.slice p1 q1 u.names.length c1, vc, .slice (some (Hg.next + 1, 0)) 4 (i + 1) false, .slice none 1 0 true, .int .i64 u.main]) (by simp) rfl
      have hnd : (Hg.newRow [.int .i64 c.args, .int .i64 c.temps, .slice pw qw c.lits.length cw, .slice px qx c.code.length cx]).next = Hg.next + 1 := rfl
      simp -implicitDefEqProofs only [g1, g2, g3, g37, g38, g39, l2, l3, l3a, f2, f3, l31, l4c, f4, f5, hw, go_sem]
      refine ⟨u.methods.length - (i + 1), by omega, i + 1, rfl, by omega, rfl, _, a3f, gre.kp MeO.mono (m := b3 + 1) (by omega) ⟨by omega, fun z z1 z2 => gf z (by omega) (fun h => h)⟩, ⟨by omega, fun z z1 z2 => ?_⟩, ?_⟩
      · rw [gf z (by omega) (fun h => h), che.keep (by omega) (fun h => by have := hub' z h; omega), scd.gt (by omega), kc.2 z z1 z2]
      refine Sm.of (by have := sc.1; omega) fun z hz => ?_
      rw [hb3] at hz
      rw [gf z (by omega) (fun h => h), che.keep (by omega) (fun h => by have := hub' z h; omega), scd.gt (by omega), sc.gt (by omega)]
    · have hlt' : ¬ (i : Int) < (u.methods.length : Int) := by omega
      rw [List.take_of_length_le (by omega)] at gr
      simp -implicitDefEqProofs only [g1, g2, g3, g37, g38, g39, hlt', Bool.false_eq_true, go_sem]
      exact ⟨_, a3, gr, kc, sc⟩
  rintro ex fr K3 ⟨rfl, g1, g3, g2, vm, a3, gr3, k23, sc⟩
  have bu3 := bu.sm sc
  have l3 := bu3.l3
  obtain ⟨a43, z4, d4, rfl, -⟩ := bu3.objects.shape
  have mx4 := bu3.objects.max
  have k23l := k23.1
  simp -implicitDefEqProofs only [g1, g3, g2, l3, go_sem]
  -- the objects
  refine WP_mono (Q := fun ex fr H' => ex = .exit 4 ∧ fr.get 3 = some (.ptr (some (b3, 0))) ∧ fr.get 2 = some (.ptr (some (G1.next, 0))) ∧ ∃ vo, Arr H' b3 [.slice p1 q1 u.names.length c1, vc, vm, vo, .int .i64 u.main] (fun _ => False) ∧ GrS K3.next (ObO K3.next) 2 H' u.objects vo ∧ KpM (b3 + 1) K3 H' ∧ Sm G2 H') ?_ (WP_loop (fun n fr H' => ∃ i : Nat, n = u.objects.length - i ∧ i ≤ u.objects.length ∧ fr.get 1 = some (.ptr (some (H.next, 0))) ∧ fr.get 3 = some (.ptr (some (b3, 0))) ∧ fr.get 2 = some (.ptr (some (G1.next, 0))) ∧ fr.get 61 = some (.slice a43 z4 u.objects.length d4) ∧ fr.get 62 = some (.int .i64 u.objects.length) ∧ fr.get 63 = some (.int .i64 i) ∧ ∃ vo, Arr H' b3 [.slice p1 q1 u.names.length c1, vc, vm, vo, .int .i64 u.main] (fun _ => False) ∧ GrS K3.next (ObO K3.next) 2 H' (u.objects.take i) vo ∧ KpM (b3 + 1) K3 H' ∧ Sm G2 H') u.objects.length ?_ ?_)
  rotate_left
  · refine ⟨0, rfl, by omega, ?_⟩
    simp -implicitDefEqProofs only [g1, g2, g3, go_sem]
    exact ⟨_, a3, GrS.nil, KpM.refl _, sc⟩
  · rintro n fr Hc ⟨i, hn, hi, g1, g3, g2, g61, g62, g63, vo, a3, gr, kc, sc⟩
    have i0 : (0 : Int) ≤ (i : Int) := by omega
    have kcl := kc.1
    by_cases hlt : i < u.objects.length
    · have hlt' : (i : Int) < (u.objects.length : Int) := by omega
      have hw := wrapS hlt mx4
      have hbb := hb.of _ (List.getElem_mem hlt)
      obtain ⟨x, o, r, rfl, rfl, ld, -, ⟨vb, rfl, hm1, hvb⟩, -⟩ := (bu.sm sc).objects.at hlt
      have htk := take_suc hlt
      have hlen : (u.objects.take i).length = i := by simp; omega
      generalize u.objects[i] = c at *
      obtain ⟨Ha, f1, na, sa, a5⟩ := store_own Hc [.int .i64 0, .slice none 1 0 true] [iv c.cls, vb] rfl
      have l3 := a5.rd.one (j := 1) rfl
      rw [Nat.zero_add] at l3
      simp only [iv] at ld f1 a5
      simp -implicitDefEqProofs only [g1, g2, g3, g61, g62, g63, hlt', i0, ld, f1, l3, go_sem]
      refine CW.mono (c_clone (f := 72) (s := 2) (bytes := 16) rfl MonoE.enc (MonoE.enc.sl _ _ _ _ hvb sa) hbb (by omega)) ?_
      rintro w Hb0 ⟨sb, e1, o1⟩
      simp -implicitDefEqProofs only [go_sem]
      refine CW.mono (c_clip (f := 71) (s := 2) rfl e1) ?_
      rintro w' Hb ⟨rfl, e2, o2⟩
      obtain ⟨pw, qw, cw, rfl, -⟩ := e2.shape
      have a5' := a5.sm sb
      obtain ⟨Hd, f2, nd, a6, gd⟩ := a5'.store (o := 1) (vs := [.slice pw qw c.fields.length cw]) (cs' := [.int .i64 c.cls, .slice pw qw c.fields.length cw]) (by simp) rfl
      have la := sa.1; have lb := sb.1
      have scd : Sm Hc Hd := Sm.of (by omega) fun z hz => by rw [gd z (by omega) (fun h => h), sb.gt (by omega), sa.gt hz]
      have scl : Hc.next ≤ Hd.next := scd.1
      have a3d := a3.sm scd
      have l31 := a3d.rd.one (j := 3) rfl
      have l4c := a6.rd.load (n := 2) rfl
      rw [Nat.zero_add] at l31
      have hub : ∀ z, ub vo = some z → z < Hc.next := fun z hz => by
        obtain ⟨cs, q1, -⟩ := gr
        exact (q1.ubP hz).2
      have hub' : ∀ z, ub vo = some z → K3.next ≤ z := fun z hz => by
        obtain ⟨cs, q1, -⟩ := gr
        exact (q1.ubP hz).1
      have hel : ObO K3.next (ub vo) Hd c [.int .i64 c.cls, .slice pw qw c.fields.length cw] := by
        refine ⟨_, rfl, hm1, ?_⟩
        have q := OwR.of (u := ub vo) e2 (o2 _ o1) sb.1 (fun z hz => by have := hub z hz; omega)
        exact (q.keep (by omega) (fun z z1 z2 _ => gd z (by omega) (fun h => h)) fun z hz => .inr hz).low (by omega)
      have grd := gr.kp ObO.mono (Nat.le_refl _) (scd.kp (m := K3.next))
      have hcb := hb.o
      obtain ⟨He, f3, ne, che, gre⟩ := grd.push ObO.mono (by omega) hel rfl (bytes := 32) (by rw [hlen]; omega) (by rw [hlen]; omega)
      rw [hlen, ← htk] at gre
      rw [hlen] at f3
      have nne : Hd.next ≤ He.next := by omega
      have a3e := a3d.keep nne (che.keep a3d.1 fun h => by have := hub' b3 h; omega)
      obtain ⟨Hf, f4, nf, a3f, gf⟩ := a3e.store (o := 3) (vs := [.slice (some (Hd.next + 1, 0)) 2 (i + 1) false]) (cs' := [.slice p1 q1 u.names.length c1, vc, vm, .slice (some (Hd.next + 1, 0)) 2 (i + 1) false, .int .i64 u.main]) (by simp) rfl
      have hnd : (Hd.newRow [.int .i64 c.cls, .slice pw qw c.fields.length cw]).next = Hd.next + 1 := rfl
      simp -implicitDefEqProofs only [g1, g2, g3, g61, g62, g63, f2, l31, l4c, f3, f4, hw, go_sem]
      refine ⟨u.objects.length - (i + 1), by omega, i + 1, rfl, by omega, rfl, _, a3f, gre.kp ObO.mono (m := b3 + 1) (by omega) ⟨by omega, fun z z1 z2 => gf z (by omega) (fun h => h)⟩, ⟨by omega, fun z z1 z2 => ?_⟩, ?_⟩
      · rw [gf z (by omega) (fun h => h), che.keep (by omega) (fun h => by have := hub' z h; omega), scd.gt (by omega), kc.2 z z1 z2]
      refine Sm.of (by have := sc.1; omega) fun z hz => ?_
      rw [hb3] at hz
      rw [gf z (by omega) (fun h => h), che.keep (by omega) (fun h => by have := hub' z h; omega), scd.gt (by omega), sc.gt (by omega)]
    · have hlt' : ¬ (i : Int) < (u.objects.length : Int) := by omega
      rw [List.take_of_length_le (by omega)] at gr
      simp -implicitDefEqProofs only [g1, g2, g3, g61, g62, g63, hlt', Bool.false_eq_true, go_sem]
      exact ⟨_, a3, gr, kc, sc⟩
  rintro ex fr K4 ⟨rfl, g3, g2, vo, a3, gr4, k34, sc⟩
  have l5 := a3.rd.load (n := 5) rfl
  have k34l := k34.1
  have ar4 := ar.keep (H' := K4) (by have := sc.1; omega) (by rw [sc.gt (by omega)])
  obtain ⟨K5, f5, n5, a5, g5⟩ := ar4.store (o := 0) (vs := [.slice p1 q1 u.names.length c1, vc, vm, vo, .int .i64 u.main]) (cs' := [.slice p1 q1 u.names.length c1, vc, vm, vo, .int .i64 u.main]) (by simp) rfl
  have l6 := a5.rd.load (n := 5) rfl
  simp -implicitDefEqProofs only [g2, g3, l5, f5, l6, go_sem]
  have hk5 : KpM b3 K4 K5 := ⟨by omega, fun z z1 z2 => g5 z (by omega) (fun h => h)⟩
  refine ⟨_, rfl, b3 + 1, G4, K2, K3, _, _, _, _, rfl, hmain, by omega, by omega, ?_, ow1, ((mc.trans k23).trans k34).trans (hk5.up (by omega)), gr2, hmc, k23.up (by omega), gr3, (k34.trans (hk5.up (by omega))).up (by omega), gr4.kp ObO.mono (m := b3) (by omega) hk5, mx2, mx3, mx4⟩
  refine Sm.of (by have := sc.1; omega) fun z hz => ?_
  rw [g5 z (by omega) (fun h => h), sc.gt (by omega), su3.gt hz]
end Go.Proofs.YtojeldemfccilaaGreatDoor.AA
