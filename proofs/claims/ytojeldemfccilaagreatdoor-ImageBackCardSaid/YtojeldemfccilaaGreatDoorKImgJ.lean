/- The tape, the odd unit, few; same, reads, known. -/
import Derived.Test.YtojeldemfccilaaGreatDoorKImgI
set_option linter.unusedSimpArgs false
set_option linter.unusedVariables false
namespace Go.Proofs.YtojeldemfccilaaGreatDoor.AA
open Go Go.RowKit
attribute [local go_sem ↓] WP_seq WP_skip WP_region WP_dregion WP_cond WP_block WP_exit WP_ret OW_nil OW_cons DW_nil DW_cons XW_call reduceIte OW_guard DW_guard
attribute [local go_sem] XW exA KO_eq OptK_some EvK_some GW2_true GW2_false KS_normal KS_ret KS_exit KB_normal KB_ret KB_exit CP2_bool RP_ret putA_some putA_none ev_t ev_c evs evo wantA initA resA Tr.get_set vl chkOk cond_true cond_false Nat.add_zero Nat.mul_one Nat.one_mul Nat.zero_add Nat.zero_mul aggOf pInt binA unA intA beq_true beq_false Bool.not_true Bool.not_false Bool.not_eq_true and_self and_true true_and reduceIte Nat.reduceEqDiff Nat.succ_ne_self Nat.reduceAdd Nat.reduceMul Nat.reduceSub Nat.reduceBEq Nat.reduceLT Nat.reduceLeDiff Int.cast_ofNat_Int Int.reduceToNat Int.reduceLT Int.reduceLE Int.reduceGE Int.reduceGT Int.reduceEq Int.reduceNe Int.reduceAdd Int.reduceSub Int.reduceNeg decide_true decide_false Int.toNat_natCast reduceCtorEq List.nil_append List.cons_append AV.boxy AV.cells List.length_cons List.length_nil Nat.beq_refl AOp.cl KDW_0 KDW_1 KDW_2 OWskip_eq DWskip_eq fillA setAt DChk DAt stepA ble_dec beq_dec Bool.and_self Bool.and_true Bool.true_and Bool.and_false Bool.false_and List.take_succ_cons List.take_zero List.drop_succ_cons List.drop_zero List.take_nil List.drop_nil List.append_nil eqAV eqAVL BEq.rfl sameS Option.map Option.isNone wrap64 gt_iff_lt ge_iff_le Int.lt_irrefl Int.le_refl
set_option maxRecDepth 100000
set_option maxHeartbeats 4000000
attribute [local irreducible] Tr.set
set_option maxHeartbeats 4000000
def St (H0 : AHeap) (lo : Nat) (K : AHeap) (P : AHeap → Prop) : Prop := ∀ K', K.next ≤ K'.next → (∀ z, lo ≤ z → z < K.next → K'.get z = K.get z) → Sm H0 K' → P K'
theorem St.map {H0 K : AHeap} {lo : Nat} {P Q : AHeap → Prop} (h : St H0 lo K P) (f : ∀ K, P K → Q K) : St H0 lo K Q := fun K' a b c => f _ (h K' a b c)
theorem St.of {H0 K : AHeap} {lo : Nat} {P : AHeap → Prop} (h : ∀ K', Sm H0 K' → P K') : St H0 lo K P := fun K' _ _ c => h K' c
theorem St.and {H0 K : AHeap} {lo : Nat} {P Q : AHeap → Prop} (h : St H0 lo K P) (h' : St H0 lo K Q) : St H0 lo K fun K => P K ∧ Q K := fun K' a b c => ⟨h K' a b c, h' K' a b c⟩
theorem Rd.st {H0 K : AHeap} {lo x i : Nat} {cs : List AV} (h : Rd K x i cs) (hx : lo ≤ x) : St H0 lo K fun K' => Rd K' x i cs := fun K' a b _ => h.keep a (b x hx h.1)
set_option maxHeartbeats 4000000
structure SmU (N : Nat) (u : UUnit) : Prop where
  n : u.names.length ≤ N
  c : u.classes.length ≤ N
  m : u.methods.length ≤ N
  o : u.objects.length ≤ N
  cb : ∀ c, c ∈ u.classes → c.binds.length ≤ N
  ml : ∀ m, m ∈ u.methods → m.lits.length ≤ N
  mc : ∀ m, m ∈ u.methods → m.code.length ≤ N
  of : ∀ o, o ∈ u.objects → o.fields.length ≤ N
structure GeU (u : UUnit) : Prop where
  c : 1 ≤ u.classes.length
  m : 1 ≤ u.methods.length
  o : 1 ≤ u.objects.length
theorem SmU.bnd {N : Nat} {u : UUnit} (h : SmU N u) (hN : N ≤ 100000) : BndU u :=
  ⟨by have := h.n; omega, by have := h.c; omega, by have := h.m; omega, by have := h.o; omega, fun c hc => by have := h.cb c hc; omega, fun c hc => by have := h.ml c hc; omega, fun c hc => by have := h.mc c hc; omega, fun c hc => by have := h.of c hc; omega⟩
theorem SmU.up {N M : Nat} {u : UUnit} (h : SmU N u) (hN : N ≤ M) : SmU M u :=
  ⟨by have := h.n; omega, by have := h.c; omega, by have := h.m; omega, by have := h.o; omega, fun c hc => by have := h.cb c hc; omega, fun c hc => by have := h.ml c hc; omega, fun c hc => by have := h.mc c hc; omega, fun c hc => by have := h.of c hc; omega⟩
theorem St.low {H0 K : AHeap} {lo lo' : Nat} {P : AHeap → Prop} (h : St H0 lo K P) (hl : lo' ≤ lo) : St H0 lo' K P := fun K' a b c => h K' a (fun z h1 h2 => b z (by omega) h2) c
theorem St.step {H0 K K1 : AHeap} {lo : Nat} {P : AHeap → Prop} (h : St H0 lo K P) (hn : K.next ≤ K1.next) (hg : ∀ z, lo ≤ z → z < K.next → K1.get z = K.get z) : St H0 lo K1 P := fun K' a b c => h K' (by omega) (fun z h1 h2 => by rw [b z h1 (by omega), hg z h1 h2]) c
set_option maxHeartbeats 4000000
set_option maxHeartbeats 4000000
def preA (s : Nat) (v k : AV) : Option AV := match v with
  | .slice (some (b, i)) s' len clip => bif s'.beq s then slA b i s len clip none (some k) none else none
  | .slice none s' len clip => (match slA 0 0 s len clip none (some k) none with | some (.slice _ _ n _) => some (.slice none s n true) | _ => none)
  | _ => none
theorem SlE.few {α : Type} {E : Rep α} {s : Nat} {H : AHeap} {xs : List α} {v : AV} (h : SlE E s H xs [v]) {k : Nat} (hk : k ≤ xs.length) : ∃ w, preA s v (.int .i64 (k : Int)) = some w ∧ SlE E s H (xs.take k) [w] := by
  obtain ⟨a, s0, cl, rfl, hs⟩ := h.shape
  cases a with
  | none =>
    have h0 : xs.length = 0 := by
      by_cases h0 : xs.length = 0
      · exact h0
      · obtain ⟨x, o, l, e, -⟩ := h.at (i := 0) (by omega)
        cases e
    obtain rfl : k = 0 := by omega
    have hx : xs = [] := List.eq_nil_of_length_eq_zero h0
    subst hx
    exact ⟨.slice none s 0 true, rfl, ⟨none, s, true, rfl, .inl rfl, Nat.zero_le _, fun h => absurd rfl h⟩⟩
  | some p =>
    obtain ⟨x, o⟩ := p
    obtain rfl : s0 = s := by rcases hs with e | e; cases e; exact e
    obtain ⟨h1, h2⟩ := h.pre hk
    refine ⟨_, ?_, h2⟩
    simp only [preA, Nat.beq_refl, cond_true]
    exact h1
attribute [local go_sem ↓] exA_lookup stepA_lookup exA_mapUpd WP_seq WP_skip WP_region WP_dregion WP_cond WP_block WP_exit WP_ret OW_nil OW_cons DW_nil DW_cons XW_call reduceIte OW_guard DW_guard
attribute [local go_sem] LkA_some EvA_some updM_some at0 at1 XW exA KO_eq OptK_some EvK_some GW2_true GW2_false KS_normal KS_ret KS_exit KB_normal KB_ret KB_exit CP2_bool RP_ret putA_some putA_none ev_t ev_c evs evo wantA initA resA Tr.get_set vl chkOk cond_true cond_false Nat.add_zero Nat.mul_one Nat.one_mul Nat.zero_add Nat.zero_mul aggOf pInt binA unA intA beq_true beq_false Bool.not_true Bool.not_false Bool.not_eq_true and_self and_true true_and reduceIte Nat.reduceEqDiff Nat.succ_ne_self Nat.reduceAdd Nat.reduceMul Nat.reduceSub Nat.reduceBEq Nat.reduceLT Nat.reduceLeDiff Int.cast_ofNat_Int Int.reduceToNat Int.reduceLT Int.reduceLE Int.reduceGE Int.reduceGT Int.reduceEq Int.reduceNe Int.reduceAdd Int.reduceSub Int.reduceNeg decide_true decide_false Int.toNat_natCast reduceCtorEq List.nil_append List.cons_append AV.boxy AV.cells List.length_cons List.length_nil Nat.beq_refl AOp.cl KDW_0 KDW_1 KDW_2 OWskip_eq DWskip_eq fillA setAt DChk DAt stepA ble_dec beq_dec Bool.and_self Bool.and_true Bool.true_and Bool.and_false Bool.false_and List.take_succ_cons List.take_zero List.drop_succ_cons List.drop_zero List.take_nil List.drop_nil List.append_nil eqAV eqAVL BEq.rfl sameS Option.map Option.isNone wrap64 gt_iff_lt ge_iff_le Int.lt_irrefl Int.le_refl
set_option maxHeartbeats 8000000
abbrev zA5 : List AV := [.slice none 1 0 true, .slice none 1 0 true, .slice none 1 0 true, .slice none 1 0 true, .int .i64 0]
theorem UnE.len {H : AHeap} {u : UUnit} {cs : List AV} (h : UnE H u cs) : cs.length = 5 := by
  obtain ⟨_, _, _, _, rfl, -⟩ := h
  rfl
theorem UnE.sh {H : AHeap} {u : UUnit} {cs : List AV} (h : UnE H u cs) : ∃ a1 z1 c1 a2 z2 c2 a3 z3 c3 a4 z4 c4, cs = [.slice a1 z1 u.names.length c1, .slice a2 z2 u.classes.length c2, .slice a3 z3 u.methods.length c3, .slice a4 z4 u.objects.length c4, .int .i64 u.main] := by
  obtain ⟨_, _, _, _, rfl, -, h1, h2, h3, h4⟩ := h
  obtain ⟨a1, z1, c1, rfl⟩ := SlE.shape3 h1
  obtain ⟨a2, z2, c2, rfl⟩ := SlE.shape3 h2
  obtain ⟨a3, z3, c3, rfl⟩ := SlE.shape3 h3
  obtain ⟨a4, z4, c4, rfl⟩ := SlE.shape3 h4
  exact ⟨_, _, _, _, _, _, _, _, _, _, _, _, rfl⟩
theorem eqStr (a c : List Nat) : binA .eql (.sc .str) (.str a) (.str c) = some (.bool (decide (a = c))) := by
  by_cases h : a = c
  · subst h; simp [binA]
  · simp [binA, h]
theorem BytR.sh {u : UUnit} {w : AV} {H : AHeap} (h : BytR u w H) : ∃ b, w = .tuple [b, .int .i64 (unitP u)] ∧ ((unitP u ≠ 0 ∧ b = .slice none 1 0 true) ∨ (unitP u = 0 ∧ SlE ByE 1 H (bytesP u) [b])) := by
  rcases h with ⟨h1, rfl⟩ | ⟨h1, b, rfl, h3, -⟩
  · exact ⟨_, rfl, .inl ⟨h1, rfl⟩⟩
  · exact ⟨b, by rw [h1], .inr ⟨h1, h3⟩⟩
theorem BytR.ok {u : UUnit} {w : AV} {H : AHeap} (h : BytR u w H) (h0 : unitP u = 0) : ∃ b, w = .tuple [b, .int .i64 0] ∧ SlE ByE 1 H (bytesP u) [b] ∧ ub b = none := by
  rcases h with ⟨h1, -⟩ | ⟨-, h2⟩
  · exact absurd h0 h1
  · exact h2
set_option maxHeartbeats 8000000
def uK16 : UUnit := ⟨[], [⟨[66], -1, 4, []⟩, ⟨[65], -1, 0, []⟩], [⟨0, 0, [], [3, 0, 14, 0]⟩], [⟨1, []⟩], 0⟩
theorem uK16_r : unitP uK16 = 0 := by decide +kernel
theorem zU_r : unitP zU = 3 := by decide +kernel
theorem read_nil : ReadP [] zU 12 := .inr (.inr ⟨by simp, fun v _ h => by
  have := congrArg List.length h
  rw [bytesP, List.length_append, markB] at this
  simp at this
  omega, rfl, rfl⟩)
theorem ReadP.of {u : UUnit} (h : unitP u = 0) : ReadP (bytesP u) u 0 := .inr (.inl ⟨by have := (fitU_of h).len; omega, h, rfl, rfl⟩)
theorem repl_flat : ∀ N : Nat, (List.replicate N ([.int .u8 0] : List AV)).flatten = List.replicate N (AV.int .u8 0)
  | 0 => rfl
  | N + 1 => by rw [List.replicate_succ, List.flatten_cons, repl_flat N, List.replicate_succ]; rfl
theorem zrow (K : AHeap) (N : Nat) (hN : N ≤ maxLen) : SlE ByE 1 (K.newRow (List.replicate N (AV.int .u8 0))) (List.replicate N 0) [.slice (some (K.next, 0)) 1 N true] := SlE.new MonoE.enc (Rd.newRow K _) (by rw [List.length_replicate]) (by rw [List.length_replicate, List.length_replicate]; omega) (by rw [List.length_replicate]; exact hN) fun j hj => by
  rw [List.length_replicate] at hj
  refine ⟨?_, by rw [List.getElem_replicate]; simp [byOk]⟩
  rw [List.drop_replicate, List.take_replicate, Nat.mul_one, Nat.min_eq_left (by omega), List.getElem_replicate]
  rfl
theorem big_read {N : Nat} (h : 65536 < N) : ReadP (List.replicate N 0) zU 3 := .inl ⟨by rw [List.length_replicate]; exact h, rfl, rfl⟩
theorem c_known16 (H : AHeap) : CW MN 14 [] H fun w H' => w = .bool true ∧ Sm H H' := by
  refine CW_of (fn := af14) rfl ?_
  dsimp only [af14, qm, q, qG, qn, qi, qb, qB, qk, qc, qo, qg, qv, qr]
  have sc := Chg.newRow H [.str [66], .int .i64 (-1), .int .i64 4, .slice none 1 0 true, .str [65], .int .i64 (-1), .int .i64 0, .slice none 1 0 true]
  have rc := Rd.newRow H [.str [66], .int .i64 (-1), .int .i64 4, .slice none 1 0 true, .str [65], .int .i64 (-1), .int .i64 0, .slice none 1 0 true]
  have nc : (H.newRow [.str [66], .int .i64 (-1), .int .i64 4, .slice none 1 0 true, .str [65], .int .i64 (-1), .int .i64 0, .slice none 1 0 true]).next = H.next + 1 := rfl
  generalize ec : H.newRow [.str [66], .int .i64 (-1), .int .i64 4, .slice none 1 0 true, .str [65], .int .i64 (-1), .int .i64 0, .slice none 1 0 true] = K1 at *
  have sb := Chg.newRow K1 [.int .u8 3, .int .u8 0, .int .u8 14, .int .u8 0]
  have rb := Rd.newRow K1 [.int .u8 3, .int .u8 0, .int .u8 14, .int .u8 0]
  have nb : (K1.newRow [.int .u8 3, .int .u8 0, .int .u8 14, .int .u8 0]).next = K1.next + 1 := rfl
  generalize eb : K1.newRow [.int .u8 3, .int .u8 0, .int .u8 14, .int .u8 0] = K2 at *
  have sm := Chg.newRow K2 [.int .i64 0, .int .i64 0, .slice none 1 0 true, .slice (some (K1.next, 0)) 1 4 true]
  have rm := Rd.newRow K2 [.int .i64 0, .int .i64 0, .slice none 1 0 true, .slice (some (K1.next, 0)) 1 4 true]
  have nm : (K2.newRow [.int .i64 0, .int .i64 0, .slice none 1 0 true, .slice (some (K1.next, 0)) 1 4 true]).next = K2.next + 1 := rfl
  generalize em : K2.newRow [.int .i64 0, .int .i64 0, .slice none 1 0 true, .slice (some (K1.next, 0)) 1 4 true] = K3 at *
  have so := Chg.newRow K3 [.int .i64 1, .slice none 1 0 true]
  have ro := Rd.newRow K3 [.int .i64 1, .slice none 1 0 true]
  have no : (K3.newRow [.int .i64 1, .slice none 1 0 true]).next = K3.next + 1 := rfl
  generalize eo : K3.newRow [.int .i64 1, .slice none 1 0 true] = K5 at *
  obtain ⟨K6, e6, n6, s6, r6⟩ := store_new K5 zA5 [.slice none 1 0 true, .slice (some (H.next, 0)) 4 2 true, .slice (some (K2.next, 0)) 4 1 true, .slice (some (K3.next, 0)) 2 1 true, .int .i64 0] rfl
  have un : UnE K6 uK16 [.slice none 1 0 true, .slice (some (H.next, 0)) 4 2 true, .slice (some (K2.next, 0)) 4 1 true, .slice (some (K3.next, 0)) 2 1 true, .int .i64 0] := by
    have rc' := rc.keep (H' := K6) (by omega) (by rw [s6.gt (by omega), so.gt (by omega), sm.gt (by omega), sb.gt (by omega)])
    have rb' := rb.keep (H' := K6) (by omega) (by rw [s6.gt (by omega), so.gt (by omega), sm.gt (by omega)])
    have rm' := rm.keep (H' := K6) (by omega) (by rw [s6.gt (by omega), so.gt (by omega)])
    have ro' := ro.keep (H' := K6) (by omega) (by rw [s6.gt (by omega)])
    refine ⟨_, _, _, _, rfl, by simp [I64, uK16], SlE.empty, ⟨_, _, _, rfl, .inr rfl, by decide, fun _ => ⟨_, 0, _, rfl, rc', rfl, fun j hj => ?_⟩⟩, ⟨_, _, _, rfl, .inr rfl, by decide, fun _ => ⟨_, 0, _, rfl, rm', rfl, fun j hj => ?_⟩⟩, ⟨_, _, _, rfl, .inr rfl, by decide, fun _ => ⟨_, 0, _, rfl, ro', rfl, fun j hj => ?_⟩⟩⟩
    · have hj' : j < 2 := hj
      rcases (by omega : j = 0 ∨ j = 1) with rfl | rfl <;> exact ⟨_, rfl, ⟨by simp [uK16], by simp [uK16]⟩, by simp [uK16, I64], by simp [uK16, I64], SlE.empty⟩
    · obtain rfl : j = 0 := by have : j < 1 := hj; omega
      refine ⟨_, _, rfl, by simp [uK16, I64], by simp [uK16, I64], SlE.empty, _, _, _, rfl, .inr rfl, (show 4 ≤ maxLen by decide), fun _ => ⟨_, 0, _, rfl, rb', rfl, fun j hj => ?_⟩⟩
      have hj' : j < 4 := hj
      rcases (by omega : j = 0 ∨ j = 1 ∨ j = 2 ∨ j = 3) with rfl | rfl | rfl | rfl <;> exact ⟨rfl, by simp [uK16, byOk]⟩
    · obtain rfl : j = 0 := by have : j < 1 := hj; omega
      exact ⟨_, rfl, by simp [uK16, I64], SlE.empty⟩
  have h06 : Sm H K6 := (((sc.trans sb).trans sm).trans so).trans s6
  have l6 := r6.load (n := 5) rfl
  simp -implicitDefEqProofs only [ec, eb, em, eo, e6, l6, eqA, eqD, go_sem]
  refine CW.mono (c_iBytes un) ?_
  rintro w K7 ⟨s7, hb⟩
  obtain ⟨b, rfl, hq⟩ := hb.sh
  rcases hq with ⟨h0, -⟩ | ⟨-, sl⟩
  · exact absurd uK16_r h0
  rw [uK16_r]
  obtain ⟨ab, zb, cb, rfl⟩ := SlE.shape3 sl
  simp -implicitDefEqProofs only [eqA, eqD, go_sem]
  refine CW.mono (c_Read sl) ?_
  rintro w K8 ⟨s8, cs, e, u, rfl, hu, hp⟩
  obtain ⟨rfl, rfl⟩ := (ReadP.of uK16_r).uniq hp
  obtain ⟨x1, y1, w1, x2, y2, w2, x3, y3, w3, x4, y4, w4, rfl⟩ := hu.sh
  obtain ⟨K9, e9, n9, s9, r9⟩ := store_new K8 zA5 [.slice x1 y1 uK16.names.length w1, .slice x2 y2 uK16.classes.length w2, .slice x3 y3 uK16.methods.length w3, .slice x4 y4 uK16.objects.length w4, .int .i64 uK16.main] rfl
  simp -implicitDefEqProofs only [e9, eqA, eqD, go_sem]
  refine CW.mono (c_Read (H := K9) (d := []) SlE.empty) ?_
  rintro w K10 ⟨s10, cs2, e2, u2, rfl, hu2, hp2⟩
  obtain ⟨rfl, rfl⟩ := read_nil.uniq hp2
  obtain ⟨p1, q1, k1, p2, q2, k2, p3, q3, k3, p4, q4, k4, rfl⟩ := hu2.sh
  obtain ⟨K11, e11, n11, s11, r11⟩ := store_new K10 zA5 [.slice p1 q1 zU.names.length k1, .slice p2 q2 zU.classes.length k2, .slice p3 q3 zU.methods.length k3, .slice p4 q4 zU.objects.length k4, .int .i64 zU.main] rfl
  simp -implicitDefEqProofs only [e11, eqA, eqD, go_sem]
  refine CW.mono (c_iBytes (zU_E K11)) ?_
  rintro w K12 ⟨s12, hb2⟩
  obtain ⟨b2, rfl, hq2⟩ := hb2.sh
  rw [zU_r]
  obtain ⟨-, rfl⟩ : unitP zU ≠ 0 ∧ b2 = .slice none 1 0 true := by
    rcases hq2 with h | h
    · exact h
    · have := h.1; rw [zU_r] at this; cases this
  have sz := Chg.newRow K12 (List.replicate 65537 (AV.int .u8 0))
  have hfl : (List.replicate 65537 ([.int .u8 0] : List AV)).flatten = List.replicate 65537 (AV.int .u8 0) := repl_flat 65537
  have slz := zrow K12 65537 (by decide)
  have big : ReadP (List.replicate 65537 0) zU 3 := big_read (by omega)
  generalize List.replicate 65537 (AV.int .u8 0) = zr at *
  generalize List.replicate 65537 (0 : Nat) = zd at *
  generalize eK13 : K12.newRow zr = K13 at *
  have cz : (65537 : Int) * 1 ≤ 140737488355328 := by omega
  simp -implicitDefEqProofs only [cz, hfl, eK13, BEq.rfl, eqA, eqD, go_sem]
  refine CW.mono (c_Read slz) ?_
  rintro w K14 ⟨s14, cs3, e3, u3, rfl, hu3, hp3⟩
  obtain ⟨rfl, rfl⟩ := big.uniq hp3
  obtain ⟨f1, g1, h1, f2, g2, h2, f3, g3, h3, f4, g4, h4, rfl⟩ := hu3.sh
  obtain ⟨K15, e15, n15, s15, r15⟩ := store_new K14 zA5 [.slice f1 g1 zU.names.length h1, .slice f2 g2 zU.classes.length h2, .slice f3 g3 zU.methods.length h3, .slice f4 g4 zU.objects.length h4, .int .i64 zU.main] rfl
  have t1 : Sm K6 K15 := (((s7.trans s8).trans s9).trans (s10.trans s11)).trans ((s12.trans sz).trans (s14.trans s15))
  have t9 : Sm K9 K15 := (s10.trans s11).trans ((s12.trans sz).trans (s14.trans s15))
  have la := (t1.ld r6.1).trans l6
  have lb := (t9.ld r9.1).trans (r9.load (n := 5) rfl)
  have un15 := MonoE.un _ _ _ _ un t1
  have hu15 := MonoE.un _ _ _ _ hu (s9.trans t9)
  have sl15 := MonoE.enc.sl _ _ _ _ sl ((s8.trans s9).trans t9)
  have z0 : ((0 : Int) == 0) = true := rfl
  simp -implicitDefEqProofs only [e15, la, lb, z0, BEq.rfl, eqA, eqD, go_sem]
  refine CW.mono (c_rSame un15 hu15) ?_
  rintro w K16 ⟨rfl, s16⟩
  have la16 := (s16.ld (by have := t1.1; have := r6.1; omega)).trans la
  simp -implicitDefEqProofs only [la16, BEq.rfl, decide_true, eqA, eqD, go_sem]
  refine CW.mono (c_Size (MonoE.un _ _ _ _ un15 s16)) ?_
  rintro w K17 ⟨s17, rfl⟩
  rw [if_pos uK16_r]
  have hl4 : 4 ≤ (bytesP uK16).length := by rw [bytesP, List.length_append, markB]; simp
  have hl5 : (4 : Int) < ((bytesP uK16).length : Int) := by
    have : (bytesP uK16).length = markB.length + (unB uK16).length := by rw [bytesP, List.length_append]
    have h2 : 4 ≤ (unB uK16).length := by unfold unB rowB; simp only [List.length_append, b4_len]; omega
    have h3 : markB.length = 4 := rfl
    omega
  have sl17 := MonoE.enc.sl _ _ _ _ sl15 (s16.trans s17)
  obtain ⟨wp, p1', q1'⟩ := sl17.preG hl4
  have dd := ByE.str q1'
  obtain ⟨wa, wz, wc, rfl⟩ := SlE.shape3 q1'
  have hmk : (bytesP uK16).take 4 = [84, 87, 49, 0] := rfl
  rw [hmk] at dd
  have p1'' : sliA 1 (.slice ab zb (bytesP uK16).length cb) none (some (.int .i64 4)) none = some (.slice wa wz ((bytesP uK16).take 4).length wc) := p1'
  have eqs : binA .eql (.sc .str) (.str [84, 87, 49, 0]) (.str [84, 87, 49, 0]) = some (.bool true) := by rw [eqStr]; simp
  rw [hmk] at p1''
  have hlm : ([84, 87, 49, 0] : List Nat).length = 4 := rfl
  rw [hlm] at p1'' dd
  simp -implicitDefEqProofs only [la16, hl5, BEq.rfl, ↓exA_slG, SlG_some, p1'', dd, ↓eqs, eqA, eqD, go_sem]
  refine CW.mono (c_Size (zU_E _)) ?_
  rintro w K18 ⟨s18, rfl⟩
  have hzn : unitP zU ≠ 0 := by rw [zU_r]; omega
  rw [if_neg hzn]
  have z00 : (((0 : Nat) : Int) == 0) = true := rfl
  simp -implicitDefEqProofs only [z00, eqA, eqD, go_sem]
  exact (h06.trans t1).trans ((s16.trans s17).trans s18)
end Go.Proofs.YtojeldemfccilaaGreatDoor.AA
