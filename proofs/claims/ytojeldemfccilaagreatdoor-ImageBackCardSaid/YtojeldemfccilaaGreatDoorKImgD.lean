/- The tape, pieces of code, literals, methods. -/
import Derived.Test.YtojeldemfccilaaGreatDoorKImgC
set_option linter.unusedSimpArgs false
set_option linter.unusedVariables false
namespace Go.Proofs.YtojeldemfccilaaGreatDoor.AA
open Go Go.RowKit
attribute [local go_sem ↓] WP_seq WP_skip WP_region WP_dregion WP_cond WP_block WP_exit WP_ret OW_nil OW_cons DW_nil DW_cons XW_call reduceIte OW_guard DW_guard
attribute [local go_sem] XW exA KO_eq OptK_some EvK_some GW2_true GW2_false KS_normal KS_ret KS_exit KB_normal KB_ret KB_exit CP2_bool RP_ret putA_some putA_none ev_t ev_c evs evo wantA initA resA Tr.get_set vl chkOk cond_true cond_false Nat.add_zero Nat.mul_one Nat.one_mul Nat.zero_add Nat.zero_mul aggOf pInt binA unA intA beq_true beq_false Bool.not_true Bool.not_false Bool.not_eq_true and_self and_true true_and reduceIte Nat.reduceEqDiff Nat.succ_ne_self Nat.reduceAdd Nat.reduceMul Nat.reduceSub Nat.reduceBEq Nat.reduceLT Nat.reduceLeDiff Int.cast_ofNat_Int Int.reduceToNat Int.reduceLT Int.reduceLE Int.reduceGE Int.reduceGT Int.reduceEq Int.reduceNe Int.reduceAdd Int.reduceSub Int.reduceNeg decide_true decide_false Int.toNat_natCast reduceCtorEq List.nil_append List.cons_append AV.boxy AV.cells List.length_cons List.length_nil Nat.beq_refl AOp.cl KDW_0 KDW_1 KDW_2 OWskip_eq DWskip_eq fillA setAt DChk DAt stepA ble_dec beq_dec Bool.and_self Bool.and_true Bool.true_and Bool.and_false Bool.false_and List.take_succ_cons List.take_zero List.drop_succ_cons List.drop_zero List.take_nil List.drop_nil List.append_nil eqAV eqAVL BEq.rfl sameS Option.map Option.isNone wrap64 gt_iff_lt ge_iff_le Int.lt_irrefl Int.le_refl
set_option maxRecDepth 100000
set_option maxHeartbeats 4000000
attribute [local irreducible] Tr.set
theorem c_withinN (n lo hi : Int) (H : AHeap) (h0 : -1 ≤ lo) (h1 : lo ≤ hi) (h2 : hi ≤ 1099511627776) : CW MN 15 [.int .i64 n, .int .i64 lo, .int .i64 hi] H fun v H' => (∃ m, v = .int .i64 m ∧ lo ≤ m ∧ m ≤ hi) ∧ H' = H := by
  refine CW_of (fn := af15) rfl ?_
  dsimp only [af15, qm, q, qG, qn, qi, qb, qB, qk, qc, qo, qg, qv, qr]
  have w1 : IntKind.i64.wrap (hi - lo) = hi - lo := wrap64 (by omega) (by omega)
  have w2 : IntKind.i64.wrap (hi - lo + 1) = hi - lo + 1 := wrap64 (by omega) (by omega)
  have hd : ¬ hi - lo + 1 = 0 := by omega
  have b1 : n.tmod (hi - lo + 1) < hi - lo + 1 := Int.tmod_lt_of_pos n (by omega)
  have b2 : -(hi - lo + 1) < n.tmod (hi - lo + 1) := by
    have := Int.tmod_lt_of_pos (-n) (b := hi - lo + 1) (by omega)
    rw [Int.neg_tmod] at this
    omega
  have fin : ¬ (lo ≤ n ∧ n ≤ hi) → ∀ x, IntKind.i64.wrap x = x → (x = lo + n.tmod (hi - lo + 1) ∧ 0 ≤ n.tmod (hi - lo + 1) ∨ x = lo + (n.tmod (hi - lo + 1) + hi - lo + 1) ∧ n.tmod (hi - lo + 1) < 0) → ∃ m, AV.int .i64 x = .int .i64 m ∧ lo ≤ m ∧ m ≤ hi := fun _ x _ hx => ⟨x, rfl, by omega, by omega⟩
  have w3 : IntKind.i64.wrap (n.tmod (hi - lo + 1) + hi) = n.tmod (hi - lo + 1) + hi := wrap64 (by omega) (by omega)
  have w4 : IntKind.i64.wrap (n.tmod (hi - lo + 1) + hi - lo) = n.tmod (hi - lo + 1) + hi - lo := wrap64 (by omega) (by omega)
  have w5 : IntKind.i64.wrap (n.tmod (hi - lo + 1) + hi - lo + 1) = n.tmod (hi - lo + 1) + hi - lo + 1 := wrap64 (by omega) (by omega)
  have w6 : IntKind.i64.wrap (lo + (n.tmod (hi - lo + 1) + hi - lo + 1)) = lo + (n.tmod (hi - lo + 1) + hi - lo + 1) := wrap64 (by omega) (by omega)
  have w7 : IntKind.i64.wrap (lo + n.tmod (hi - lo + 1)) = lo + n.tmod (hi - lo + 1) := wrap64 (by omega) (by omega)
  by_cases c1 : lo ≤ n
  · by_cases c2 : n ≤ hi
    · simp -implicitDefEqProofs only [c1, c2, Bool.false_eq_true, go_sem]
      exact ⟨n, rfl, c1, c2⟩
    · by_cases c3 : n.tmod (hi - lo + 1) < 0
      · simp -implicitDefEqProofs only [c1, c2, c3, w1, w2, w3, w4, w5, w6, hd, Bool.false_eq_true, go_sem]
        exact fin (by omega) _ w6 (.inr ⟨rfl, c3⟩)
      · simp -implicitDefEqProofs only [c1, c2, c3, w1, w2, w7, hd, Bool.false_eq_true, go_sem]
        exact fin (by omega) _ w7 (.inl ⟨rfl, by omega⟩)
  · by_cases c3 : n.tmod (hi - lo + 1) < 0
    · simp -implicitDefEqProofs only [c1, c3, w1, w2, w3, w4, w5, w6, hd, Bool.false_eq_true, go_sem]
      exact fin (by omega) _ w6 (.inr ⟨rfl, c3⟩)
    · simp -implicitDefEqProofs only [c1, c3, w1, w2, w7, hd, Bool.false_eq_true, go_sem]
      exact fin (by omega) _ w7 (.inl ⟨rfl, by omega⟩)
def TapeR (H : AHeap) (b : Nat) : Prop := ∃ (G : AHeap) (l : List Int) (a : Option (Nat × Nat)) (s0 : Nat) (cl : Bool) (k : Nat), G.next ≤ b ∧ Sm G H ∧ SlE InE 1 G l [.slice a s0 l.length cl] ∧ k ≤ l.length ∧ Arr H b [.slice a s0 l.length cl, .int .i64 (k : Int)] (fun _ => False)
theorem TapeR.lt {H : AHeap} {b : Nat} (h : TapeR H b) : b < H.next := by
  obtain ⟨G, l, a, s0, cl, k, -, -, -, -, h⟩ := h
  exact h.1
def NxR (b : Nat) (H H' : AHeap) : Prop := H'.next = H.next ∧ ∀ z, z ≠ b → H'.get z = H.get z
theorem TapeR.kp {H H' : AHeap} {b : Nat} (h : TapeR H b) (hn : H.next ≤ H'.next) (hg : ∀ z, z ≤ b → H'.get z = H.get z) : TapeR H' b := by
  obtain ⟨G, l, a, s0, cl, k, h1, h2, h3, h4, h5⟩ := h
  exact ⟨G, l, a, s0, cl, k, h1, Sm.of (Nat.le_trans h2.1 hn) fun x hx => by rw [hg x (by omega), h2.gt hx], h3, h4, h5.keep hn (hg b (Nat.le_refl _))⟩
theorem TapeR.sm {H H' : AHeap} {b : Nat} (h : TapeR H b) (s : Sm H H') : TapeR H' b := h.kp s.1 fun z hz => s.gt (by have := h.lt; omega)
theorem c_Next {H : AHeap} {b : Nat} (h : TapeR H b) (n : Int) (hn : n ≤ 1000000) : CW MN 22 [.ptr (some (b, 0)), .int .i64 n] H fun w H' => (∃ k : Nat, w = .int .i64 (k : Int) ∧ ((k : Int) < n ∨ k = 0)) ∧ TapeR H' b ∧ NxR b H H' := by
  refine CW_of (fn := af22) rfl ?_
  dsimp only [af22, qm, q, qG, qn, qi, qb, qB, qk, qc, qo, qg, qv, qr]
  have h' := h
  obtain ⟨G, l, a, s0, cl, k, hG, sG, hl, hk, ar⟩ := h
  have l0 := ar.rd.one (j := 0) rfl
  have l1 := ar.rd.one (j := 1) rfl
  rw [Nat.zero_add] at l0 l1
  have mx := hl.max
  by_cases h1 : (l.length : Int) ≤ (k : Int)
  · simp -implicitDefEqProofs only [l0, l1, h1, go_sem]
    exact ⟨⟨0, rfl, .inr rfl⟩, h', rfl, fun _ _ => rfl⟩
  · by_cases h2 : n < 1
    · simp -implicitDefEqProofs only [l0, l1, h1, h2, Bool.false_eq_true, go_sem]
      exact ⟨⟨0, rfl, .inr rfl⟩, h', rfl, fun _ _ => rfl⟩
    · have kl : k < l.length := by omega
      have hw := wrapS kl mx
      have hw2 : IntKind.i64.wrap (((k + 1 : Nat) : Int) - 1) = (k : Int) := by rw [wrap64 (by omega) (by omega)]; omega
      obtain ⟨H2, e2, n2, a2, g2⟩ := ar.store (o := 1) (vs := [.int .i64 ((k + 1 : Nat) : Int)]) (cs' := [.slice a s0 l.length cl, .int .i64 ((k + 1 : Nat) : Int)]) (by simp) rfl
      have s2 : Sm G H2 := Sm.of (by rw [n2]; exact sG.1) fun x hx => by rw [g2 x (by omega) (fun h => h), sG.gt hx]
      have m0 := a2.rd.one (j := 0) rfl
      have m1 := a2.rd.one (j := 1) rfl
      rw [Nat.zero_add] at m0 m1
      obtain ⟨x, o, r, rfl, rfl, ld, -, ⟨rfl, -⟩, -⟩ := (MonoE.enc.sl _ _ _ _ hl s2).at kl
      have k0 : (0 : Int) ≤ (k : Int) := by omega
      have kl' : (k : Int) < (l.length : Int) := by omega
      simp only [inC, iv, Nat.mul_one] at ld
      generalize l[k] = y at *
      simp -implicitDefEqProofs only [l0, l1, h1, h2, hw, hw2, e2, m0, m1, k0, kl', ld, Bool.false_eq_true, go_sem]
      refine CW.mono (c_withinN y 0 1073741824 _ (by omega) (by omega) (by omega)) ?_
      rintro w H3 ⟨⟨m, rfl, m0', m1'⟩, rfl⟩
      have hn0 : ¬ n = 0 := by omega
      have t1 : m.tmod n = m % n := Int.tmod_eq_emod_of_nonneg m0'
      have t2 := Int.emod_nonneg m hn0
      have t3 := Int.emod_lt_of_pos m (b := n) (by omega)
      simp -implicitDefEqProofs only [hn0, m0, m1, k0, kl', ld, hw2, t1, go_sem]
      exact ⟨⟨(m % n).toNat, by rw [Int.toNat_of_nonneg t2], .inl (by omega)⟩, ⟨G, l, _, _, cl, k + 1, hG, s2, hl, by omega, a2⟩, n2, fun z hz => g2 z hz (fun h => h)⟩
set_option maxHeartbeats 4000000
theorem Gw.pushN {H : AHeap} {s n m bytes : Nat} {v : AV} {cs ys : List AV} {P : Nat → Prop} (h : Gw H s v n cs P) (hP : ∀ z, P z → z < H.next) (hys : ys.length = m * s) (hm0 : m ≠ 0) (hb : (n + m) * bytes ≤ 140737488355328) (hm : n + m ≤ 140737488355328) :
    ∃ H2, appendF (H.newRow ys) s bytes false v (.slice (some (H.next, 0)) s m true) = some (.slice (some (H.next + 1, 0)) s (n + m) false, H2) ∧ H2.next = H.next + 2 ∧ Chg H H2 (ub v) ∧ Gw H2 s (.slice (some (H.next + 1, 0)) s (n + m) false) (n + m) (cs ++ ys) fun z => P z ∨ z = H.next + 1 := by
  have hlen : (cs ++ ys).length = (n + m) * s := by rw [List.length_append, h.1, hys, Nat.add_mul]
  have hc1 := Chg.newRow H ys
  have hs1 : Sl (H.newRow ys) _ s v n cs := Sl.keep h.sl hc1.1 fun x hx hl => hc1.keep hl (by simp)
  have hsrc : srcA (H.newRow ys) s false (.slice (some (H.next, 0)) s m true) = some (ys, m) := srcA_slice (Rd.newRow H ys) hys
  obtain ⟨H2, e1, e2, e3, e4⟩ := hs1.append (bytes := bytes) hsrc hys hm0 hb hm
  have hnx : (H.newRow ys).next = H.next + 1 := rfl
  rw [hnx] at e1
  refine ⟨H2, e1, by omega, hc1.trans e3, hlen, .inr ⟨H.next + 1, rfl, .inr rfl, ?_⟩⟩
  have hm0' : m.beq 0 = false := nbf hm0
  have hbb : (((n + m) * bytes).ble 140737488355328 && (n + m).ble 140737488355328) = true := by rw [Nat.ble_eq_true_of_le hb, Nat.ble_eq_true_of_le hm]; rfl
  have fresh : ∀ cs' : List AV, ∃ c par, ((H.newRow ys).newRow cs').get (H.next + 1) = .cells c cs'.length true par ∧ (∀ j v, cs'[j]? = some v → c.get j = some v) ∧ ∀ z, z ∈ par → (P z ∨ z = H.next + 1) ∧ z ≠ H.next + 1 := by
    intro cs'
    refine ⟨ofL cs' 0 .nil, [], by rw [AHeap.newRow, get_new, if_pos (by rfl)], fun j v hj => ?_, by simp⟩
    have := (List.getElem?_eq_some_iff.1 hj).1
    rw [get_ofL, if_pos (by omega)]
    simpa using hj
  refine ⟨by omega, ?_⟩
  obtain ⟨hl', ⟨s0, rfl, rfl⟩ | ⟨x, rfl, hp, hx, c, par, hc, hf, hpar⟩⟩ := h
  · obtain rfl : cs = [] := by simpa using hl'
    unfold appendF appendA at e1
    simp only [Nat.zero_add] at hbb
    simp only [hsrc, hm0', hbb, cond_true, cond_false] at e1
    simp only [Nat.zero_add] at e1
    simp only [hbb, cond_true] at e1
    obtain ⟨-, rfl⟩ := Prod.mk.inj (Option.some.inj e1)
    exact fresh ys
  · have hxx : (H.newRow ys).get x = .cells c cs.length true par := by rw [get_newRow hx]; exact hc
    have hbl : (n * s).beq cs.length = true := nbt' hl'.symm
    unfold appendF at e1
    simp only [hxx, hbl, Nat.beq_refl, Bool.and_self, cond_true, hsrc, hm0', cond_false, hbb] at e1
    obtain ⟨-, rfl⟩ := Prod.mk.inj (Option.some.inj e1)
    refine ⟨ofL ys cs.length c, x :: par, ?_, fun j v hj => ?_, fun z hz => ?_⟩
    · rw [get_new, if_pos (by rfl), List.length_append]
    · have hjl := (List.getElem?_eq_some_iff.1 hj).1
      rw [List.length_append] at hjl
      rw [get_ofL]
      by_cases h1 : j < cs.length
      · rw [if_neg (by omega)]
        rw [List.getElem?_append_left h1] at hj
        exact hf j v hj
      · rw [if_pos (by omega)]
        rwa [List.getElem?_append_right (by omega)] at hj
    · have : P z := by
        rcases List.mem_cons.1 hz with rfl | hz
        · exact hp
        · exact (hpar z hz).1
      have := hP z this
      exact ⟨.inl ‹_›, by omega⟩
def CodeR (lo : Nat) (H : AHeap) (c : List Nat) (v : AV) : Prop := Gw H 1 v c.length (c.flatMap byC) (fun z => lo ≤ z ∧ z < H.next) ∧ ∀ x, x ∈ c → x < 256
theorem CodeR.nil (lo : Nat) (H : AHeap) : CodeR lo H [] (.slice none 1 0 true) := ⟨⟨by simp, .inl ⟨1, rfl, rfl⟩⟩, by simp⟩
theorem CodeR.kp {lo m : Nat} {H H' : AHeap} {c : List Nat} {v : AV} (h : CodeR lo H c v) (hm : m ≤ lo) (k : KpM m H H') : CodeR lo H' c v :=
  ⟨(h.1.keep k.1 fun y hy => by
    have := h.1.ubP hy
    exact k.2 y (by omega) this.2).mono fun y hy => ⟨hy.1, by have := hy.2; have := k.1; omega⟩, h.2⟩
theorem bytes_map (c : List Nat) : c.flatMap byC = c.map fun (n : Nat) => AV.int .u8 (n : Int) := by
  induction c with
  | nil => rfl
  | cons x l ih => rw [List.flatMap_cons, ih]; rfl
theorem bytes_at {c : List Nat} {j : Nat} (hj : j < c.length) : ((c.flatMap byC).drop (j * 1)).take 1 = byC c[j] := by
  have e := bytes_map c
  have hl : j < (c.map fun (n : Nat) => AV.int .u8 (n : Int)).length := by simpa using hj
  rw [e, Nat.mul_one, List.drop_eq_getElem_cons hl]
  simp [byC]
theorem CodeR.slE {lo : Nat} {H : AHeap} {c : List Nat} {v : AV} (h : CodeR lo H c v) (hm : c.length ≤ maxLen) : SlE ByE 1 H c [v] := h.1.sl.slE rfl hm fun j hj => ⟨bytes_at hj, h.2 _ (List.getElem_mem hj)⟩
def wb (n : Int) : Nat := (n % 256).toNat
theorem wb_wrap (n : Int) : IntKind.u8.wrap n = (wb n : Int) := by
  have h1 := Int.emod_nonneg n (b := 256) (by omega)
  have : IntKind.u8.wrap n = n % 256 := rfl
  rw [this, wb, Int.toNat_of_nonneg h1]
theorem wb_lt (n : Int) : wb n < 256 := by
  have h1 := Int.emod_nonneg n (b := 256) (by omega)
  have h2 := Int.emod_lt_of_pos n (b := 256) (by omega)
  unfold wb; omega
theorem c_op {lo : Nat} {H : AHeap} {c : List Nat} {v : AV} (h : CodeR lo H c v) (hlo : lo ≤ H.next) (hc : c.length ≤ 1000) (op arg : Int) : CW MN 44 [v, .int .i64 op, .int .i64 arg] H fun w H' => CodeR lo H' (c ++ [wb op, wb arg]) w ∧ H.next ≤ H'.next ∧ (∀ z, z < lo → H'.get z = H.get z) ∧ ∀ x, x < H.next → ub v ≠ some x → H'.get x = H.get x ∧ ub w ≠ some x := by
  refine CW_of (fn := af44) rfl ?_
  dsimp only [af44, qm, q, qG, qn, qi, qb, qB, qk, qc, qo, qg, qv, qr]
  obtain ⟨H2, e1, e2, e3, e4⟩ := h.1.pushN (bytes := 1) (ys := [.int .u8 (wb op : Int), .int .u8 (wb arg : Int)]) (m := 2) (fun z hz => hz.2) (by simp) (by omega) (by omega) (by omega)
  have c1 : ∀ G, convA (.int .u8) (.int .i64 op) G = some (.int .u8 (wb op : Int), G) := fun G => by rw [← wb_wrap]; rfl
  have c2 : ∀ G, convA (.int .u8) (.int .i64 arg) G = some (.int .u8 (wb arg : Int), G) := fun G => by rw [← wb_wrap]; rfl
  have hv : ∃ a s0 cl, v = .slice a s0 c.length cl := by
    obtain ⟨hl', ⟨s0, rfl, h0⟩ | ⟨x, rfl, hp, ha⟩⟩ := h.1
    · exact ⟨none, s0, true, by rw [h0]⟩
    · exact ⟨_, _, _, rfl⟩
  have hub := fun z (hz : ub v = some z) => (h.1.ubP hz).1
  obtain ⟨a, s0, cl, rfl⟩ := hv
  simp -implicitDefEqProofs only [c1, c2, e1, go_sem]
  refine ⟨⟨?_, ?_⟩, by omega, (fun z hz => e3.keep (by omega) fun hu => by have := hub z hu; omega), fun x hx hu => ⟨e3.keep hx hu, fun e => by have := Option.some.inj e; omega⟩⟩
  · have e : (c ++ [wb op, wb arg]).flatMap byC = c.flatMap byC ++ [.int .u8 (wb op : Int), .int .u8 (wb arg : Int)] := by rw [List.flatMap_append]; rfl
    rw [e, List.length_append]
    exact e4.mono fun z hz => by rcases hz with hz | rfl <;> omega
  · intro x hx
    rcases List.mem_append.1 hx with hx | hx
    · exact h.2 x hx
    · rcases List.mem_cons.1 hx with rfl | hx
      · exact wb_lt _
      · obtain rfl : x = wb arg := by simpa using hx
        exact wb_lt _
set_option maxHeartbeats 4000000
abbrev In2 := Nat × Nat
def flatI (l : List In2) : List Nat := l.flatMap fun p => [p.1, p.2]
theorem flatI_len (l : List In2) : (flatI l).length = 2 * l.length := by
  induction l with
  | nil => rfl
  | cons x l ih => simp only [flatI, List.flatMap_cons, List.length_append, List.length_cons, List.length_nil] at ih ⊢; omega
theorem flatI_snoc (l : List In2) (p : In2) : flatI (l ++ [p]) = flatI l ++ [p.1, p.2] := by simp [flatI]
def okOne (op arg n : Nat) : Prop := op ≤ 21 ∧ (op = 0 ∨ op = 10 → arg < 2) ∧ (op = 1 ∨ op = 11 → arg < 62) ∧ (op = 2 → arg < 4) ∧ (op = 12 ∨ op = 13 → 4 ≤ arg ∧ arg ≤ 9) ∧ (op = 20 → 10 ≤ arg ∧ arg ≤ 11) ∧ (op = 18 → 12 ≤ arg ∧ arg ≤ 13) ∧ (op = 15 ∨ op = 17 → arg < n) ∧ op ≠ 16 ∧ (op = 21 → arg ≤ 23)
def okL : List In2 → Prop
  | [] => True
  | p :: l => okOne p.1 p.2 l.length ∧ okL l
theorem okOne.up {op arg n m : Nat} (h : okOne op arg n) (hm : n ≤ m) : okOne op arg m := by
  unfold okOne at *
  omega
theorem okL.app : ∀ {l l' : List In2}, okL l → okL l' → okL (l ++ l')
  | [], _, _, h' => h'
  | p :: l, l', ⟨h1, h2⟩, h' => ⟨h1.up (by simp), okL.app h2 h'⟩
structure PS (H0 : AHeap) (lo b : Nat) (H : AHeap) (l : List In2) (v : AV) : Prop where
  tp : TapeR H b
  cd : CodeR lo H (flatI l) v
  ln : lo ≤ H.next
  bl : b < lo
  kp : ∀ z, z < lo → z ≠ b → H.get z = H0.get z
  nx : H0.next ≤ H.next
theorem PS.sm {H0 H H' : AHeap} {lo b : Nat} {l : List In2} {v : AV} (h : PS H0 lo b H l v) (s : Sm H H') : PS H0 lo b H' l v :=
  ⟨h.tp.sm s, h.cd.kp (Nat.le_refl _) s.kp, Nat.le_trans h.ln s.1, h.bl, fun z h1 h2 => by rw [s.gt (Nat.lt_of_lt_of_le h1 h.ln), h.kp z h1 h2], Nat.le_trans h.nx s.1⟩
theorem PS.next {H0 H : AHeap} {lo b : Nat} {l : List In2} {v : AV} (h : PS H0 lo b H l v) (n : Int) (hn : n ≤ 1000000) : CW MN 22 [.ptr (some (b, 0)), .int .i64 n] H fun w H' => (∃ k : Nat, w = .int .i64 (k : Int) ∧ ((k : Int) < n ∨ k = 0)) ∧ PS H0 lo b H' l v ∧ NxR b H H' :=
  (c_Next h.tp n hn).mono fun w H' ⟨h1, h2, h3⟩ => ⟨h1, ⟨h2, h.cd.kp (m := b + 1) h.bl ⟨by rw [h3.1]; exact Nat.le_refl _, fun z z1 z2 => h3.2 z (by omega)⟩, by rw [h3.1]; exact h.ln, h.bl, fun z z1 z2 => by rw [h3.2 z z2, h.kp z z1 z2], by rw [h3.1]; exact h.nx⟩, h3⟩
theorem PS.op {H0 H : AHeap} {lo b : Nat} {l : List In2} {v : AV} (h : PS H0 lo b H l v) (hl : l.length ≤ 400) (op arg : Int) : CW MN 44 [v, .int .i64 op, .int .i64 arg] H fun w H' => PS H0 lo b H' (l ++ [(wb op, wb arg)]) w :=
  (c_op h.cd h.ln (by rw [flatI_len]; omega) op arg).mono fun w H' ⟨h1, h2, h3, _⟩ => ⟨h.tp.kp h2 fun z hz => h3 z (by have := h.bl; omega), by rw [flatI_snoc]; exact h1, Nat.le_trans h.ln h2, h.bl, fun z z1 z2 => by rw [h3 z z1, h.kp z z1 z2], Nat.le_trans h.nx h2⟩
theorem wbs : wb 0 = 0 ∧ wb 1 = 1 ∧ wb 2 = 2 ∧ wb 3 = 3 ∧ wb 4 = 4 ∧ wb 5 = 5 ∧ wb 6 = 6 ∧ wb 7 = 7 ∧ wb 8 = 8 ∧ wb 9 = 9 ∧ wb 10 = 10 ∧ wb 11 = 11 ∧ wb 12 = 12 ∧ wb 13 = 13 ∧ wb 14 = 14 ∧ wb 15 = 15 ∧ wb 16 = 16 ∧ wb 17 = 17 ∧ wb 18 = 18 ∧ wb 19 = 19 ∧ wb 20 = 20 ∧ wb 21 = 21 ∧ wb 23 = 23 := by decide
theorem Rd.nx {H H' : AHeap} {b x i : Nat} {cs : List AV} (h : Rd H x i cs) (n : NxR b H H') (hx : x ≠ b) : Rd H' x i cs := h.keep (by rw [n.1]; exact Nat.le_refl _) (n.2 x hx)
theorem PS.nextT {H0 H : AHeap} {lo b : Nat} {l : List In2} {v : AV} (h : PS H0 lo b H l v) (n : Int) (hn : n ≤ 1000000) (tbl : List AV) : CW MN 22 [.ptr (some (b, 0)), .int .i64 n] (H.newRow tbl) fun w H' => (∃ k : Nat, w = .int .i64 (k : Int) ∧ ((k : Int) < n ∨ k = 0)) ∧ PS H0 lo b H' l v ∧ H.next ≠ b ∧ (∀ j v, tbl[j]? = some v → loadA H' H.next j 1 = some [v]) :=
  ((h.sm (Chg.newRow H tbl)).next n hn).mono fun w H' ⟨h1, h2, h3⟩ => ⟨h1, h2, by have := h.tp.lt; omega, fun j v hj => by
    have := ((Rd.newRow H tbl).nx h3 (by have := h.tp.lt; omega)).one hj
    rwa [Nat.zero_add] at this⟩
structure TabK (H : AHeap) (b x : Nat) (tbl : List AV) (v : AV) : Prop where
  r : Rd H x 0 tbl
  b : x ≠ b
  u : ub v ≠ some x
theorem TabK.new {H0 H : AHeap} {lo b : Nat} {l : List In2} {v : AV} (h : PS H0 lo b H l v) (tbl : List AV) : TabK (H.newRow tbl) b H.next tbl v :=
  ⟨Rd.newRow H tbl, by have := h.tp.lt; omega, fun e => by have := (h.cd.1.ubP e).2; omega⟩
theorem TabK.nx {H H' : AHeap} {b x : Nat} {tbl : List AV} {v : AV} (h : TabK H b x tbl v) (n : NxR b H H') : TabK H' b x tbl v := ⟨h.r.nx n h.b, h.b, h.u⟩
theorem TabK.ld {H : AHeap} {b x : Nat} {tbl : List AV} {v : AV} (h : TabK H b x tbl v) {j : Nat} {w : AV} (hj : tbl[j]? = some w) : loadA H x j 1 = some [w] := by
  have := h.r.one hj
  rwa [Nat.zero_add] at this
theorem PS.opT {H0 H : AHeap} {lo b : Nat} {l : List In2} {v : AV} {x : Nat} {tbl : List AV} (h : PS H0 lo b H l v) (t : TabK H b x tbl v) (hl : l.length ≤ 400) (op arg : Int) : CW MN 44 [v, .int .i64 op, .int .i64 arg] H fun w H' => PS H0 lo b H' (l ++ [(wb op, wb arg)]) w ∧ TabK H' b x tbl w :=
  (c_op h.cd h.ln (by rw [flatI_len]; omega) op arg).mono fun w H' ⟨h1, h2, h3, h4⟩ => ⟨⟨h.tp.kp h2 fun z hz => h3 z (by have := h.bl; omega), by rw [flatI_snoc]; exact h1, Nat.le_trans h.ln h2, h.bl, fun z z1 z2 => by rw [h3 z z1, h.kp z z1 z2], Nat.le_trans h.nx h2⟩, ⟨t.r.keep h2 (h4 x t.r.1 t.u).1, t.b, (h4 x t.r.1 t.u).2⟩⟩
theorem c_piece {H0 H : AHeap} {lo b : Nat} {l : List In2} {v : AV} (ps : PS H0 lo b H l v) (hl : l.length ≤ 300) : CW MN 43 [.ptr (some (b, 0)), v] H fun w H' => ∃ l', okL l' ∧ l'.length ≤ 5 ∧ PS H0 lo b H' (l ++ l') w := by
  refine CW_of (fn := af43) rfl ?_
  dsimp only [af43, qm, q, qG, qn, qi, qb, qB, qk, qc, qo, qg, qv, qr]
  simp -implicitDefEqProofs only [go_sem]
  refine CW.mono (ps.next _ (by omega)) ?_
  rintro _ H1 ⟨⟨t, rfl, ht⟩, ps1, -⟩
  clear ps
  simp -implicitDefEqProofs only [go_sem]
  refine CW.mono (ps1.next _ (by omega)) ?_
  rintro _ H2 ⟨⟨m, rfl, hm⟩, ps, -⟩
  clear ps1
  obtain ⟨z, hz⟩ : ∃ z : Int, (m : Int) = z := ⟨_, rfl⟩
  have hz' : 0 ≤ z ∧ z < 22 := by omega
  rw [hz]
  have hc : z = 0 ∨ z = 1 ∨ z = 2 ∨ z = 3 ∨ z = 4 ∨ z = 5 ∨ z = 6 ∨ z = 7 ∨ z = 8 ∨ z = 9 ∨ z = 10 ∨ z = 11 ∨ z = 12 ∨ z = 13 ∨ z = 14 ∨ z = 15 ∨ z = 16 ∨ z = 17 ∨ z = 18 ∨ z = 19 ∨ z = 20 ∨ z = 21 := by omega
  clear hz hz' hm m
  rcases hc with rfl | rfl | hc
  · simp -implicitDefEqProofs only [Int.reduceBEq, Bool.false_eq_true, go_sem]
    repeat (first | ((refine CW.mono (ps.op (by (try simp only [List.length_append, List.length_cons, List.length_nil]); omega) _ _) ?_; clear ps; intro w _ ps; simp -implicitDefEqProofs (disch := omega) only [go_sem])) | ((refine CW.mono (ps.next _ (by omega)) ?_; clear ps; rintro _ _ ⟨⟨k, rfl, hk⟩, ps, -⟩; simp -implicitDefEqProofs (disch := omega) only [go_sem])))
    (refine ⟨_, ?_, ?_, by first | exact ps | (simp only [List.append_assoc, List.cons_append, List.nil_append] at ps; exact ps)⟩ <;> (simp only [okL, okOne, List.length_cons, List.length_nil, wbs, and_true]; (try unfold wb); omega))
  · simp -implicitDefEqProofs only [Int.reduceBEq, Bool.false_eq_true, go_sem]
    repeat (first | ((refine CW.mono (ps.op (by (try simp only [List.length_append, List.length_cons, List.length_nil]); omega) _ _) ?_; clear ps; intro w _ ps; simp -implicitDefEqProofs (disch := omega) only [go_sem])) | ((refine CW.mono (ps.next _ (by omega)) ?_; clear ps; rintro _ _ ⟨⟨k, rfl, hk⟩, ps, -⟩; simp -implicitDefEqProofs (disch := omega) only [go_sem])))
    (refine ⟨_, ?_, ?_, by first | exact ps | (simp only [List.append_assoc, List.cons_append, List.nil_append] at ps; exact ps)⟩ <;> (simp only [okL, okOne, List.length_cons, List.length_nil, wbs, and_true]; (try unfold wb); omega))
  rcases hc with rfl | hc
  · simp -implicitDefEqProofs only [Int.reduceBEq, Bool.false_eq_true, go_sem]
    repeat (first | ((refine CW.mono (ps.op (by (try simp only [List.length_append, List.length_cons, List.length_nil]); omega) _ _) ?_; clear ps; intro w _ ps; simp -implicitDefEqProofs (disch := omega) only [go_sem])) | ((refine CW.mono (ps.next _ (by omega)) ?_; clear ps; rintro _ _ ⟨⟨k, rfl, hk⟩, ps, -⟩; simp -implicitDefEqProofs (disch := omega) only [go_sem])))
    refine CW.mono (ps.nextT _ (by omega) _) ?_
    clear ps
    rintro _ G ⟨⟨k, rfl, hk⟩, ps, -, rt⟩
    obtain ⟨z, hz⟩ : ∃ z : Int, (k : Int) = z := ⟨_, rfl⟩
    rw [hz]
    have r0 := rt 0 _ rfl
    have r1 := rt 1 _ rfl
    have r2 := rt 2 _ rfl
    rcases (by omega : z = 0 ∨ z = 1 ∨ z = 2) with rfl | rfl | rfl
    iterate 3
      · simp -implicitDefEqProofs only [r0, r1, r2, go_sem]
        repeat (first | ((refine CW.mono (ps.op (by (try simp only [List.length_append, List.length_cons, List.length_nil]); omega) _ _) ?_; clear ps; intro w _ ps; simp -implicitDefEqProofs (disch := omega) only [go_sem])) | ((refine CW.mono (ps.next _ (by omega)) ?_; clear ps; rintro _ _ ⟨⟨k, rfl, hk⟩, ps, -⟩; simp -implicitDefEqProofs (disch := omega) only [go_sem])))
        (refine ⟨_, ?_, ?_, by first | exact ps | (simp only [List.append_assoc, List.cons_append, List.nil_append] at ps; exact ps)⟩ <;> (simp only [okL, okOne, List.length_cons, List.length_nil, wbs, and_true]; (try unfold wb); omega))
  rcases hc with rfl | rfl | rfl | rfl | rfl | rfl | hc
  iterate 6
    · simp -implicitDefEqProofs only [Int.reduceBEq, Bool.false_eq_true, go_sem]
      repeat (first | ((refine CW.mono (ps.op (by (try simp only [List.length_append, List.length_cons, List.length_nil]); omega) _ _) ?_; clear ps; intro w _ ps; simp -implicitDefEqProofs (disch := omega) only [go_sem])) | ((refine CW.mono (ps.next _ (by omega)) ?_; clear ps; rintro _ _ ⟨⟨k, rfl, hk⟩, ps, -⟩; simp -implicitDefEqProofs (disch := omega) only [go_sem])))
      (refine ⟨_, ?_, ?_, by first | exact ps | (simp only [List.append_assoc, List.cons_append, List.nil_append] at ps; exact ps)⟩ <;> (simp only [okL, okOne, List.length_cons, List.length_nil, wbs, and_true]; (try unfold wb); omega))
  rcases hc with rfl | rfl | hc
  iterate 2
    · simp -implicitDefEqProofs only [Int.reduceBEq, Bool.false_eq_true, go_sem]
      have T := TabK.new ps [.int .i64 7, .int .i64 0]
      have ps := ps.sm (Chg.newRow _ [.int .i64 7, .int .i64 0])
      refine CW.mono (ps.next _ (by omega)) ?_
      clear ps
      rintro _ G1 ⟨⟨k, rfl, hk⟩, ps, nx⟩
      have T := T.nx nx
      simp -implicitDefEqProofs only [go_sem]
      refine CW.mono (ps.opT T (by (try simp only [List.length_append, List.length_cons, List.length_nil]); omega) _ _) ?_
      clear ps T
      rintro w G2 ⟨ps, T⟩
      simp -implicitDefEqProofs only [go_sem]
      refine CW.mono (ps.next _ (by omega)) ?_
      clear ps
      rintro _ G3 ⟨⟨k, rfl, hk⟩, ps, nx⟩
      have T := T.nx nx
      simp -implicitDefEqProofs only [go_sem]
      refine CW.mono (ps.opT T (by (try simp only [List.length_append, List.length_cons, List.length_nil]); omega) _ _) ?_
      clear ps T
      rintro w G4 ⟨ps, T⟩
      simp -implicitDefEqProofs only [go_sem]
      refine CW.mono (ps.next _ (by omega)) ?_
      clear ps
      rintro _ G5 ⟨⟨k, rfl, hk⟩, ps, nx⟩
      have T := T.nx nx
      obtain ⟨z, hz⟩ : ∃ z : Int, (k : Int) = z := ⟨_, rfl⟩
      rw [hz]
      have r0 := T.ld (j := 0) rfl
      have r1 := T.ld (j := 1) rfl
      rcases (by omega : z = 0 ∨ z = 1) with rfl | rfl
      iterate 2
        · simp -implicitDefEqProofs only [r0, r1, go_sem]
          refine CW.mono (ps.next _ (by omega)) ?_
          clear ps
          rintro _ G6 ⟨⟨k, rfl, hk⟩, ps, nx⟩
          have T := T.nx nx
          have r0' := T.ld (j := 0) rfl
          have r1' := T.ld (j := 1) rfl
          simp -implicitDefEqProofs (disch := omega) only [go_sem]
          refine CW.mono (ps.op (by (try simp only [List.length_append, List.length_cons, List.length_nil]); omega) _ _) ?_
          clear ps
          intro w _ ps
          simp -implicitDefEqProofs only [go_sem]
          refine CW.mono (ps.op (by (try simp only [List.length_append, List.length_cons, List.length_nil]); omega) _ _) ?_
          clear ps
          intro w _ ps
          simp -implicitDefEqProofs only [go_sem]
          refine CW.mono (ps.op (by (try simp only [List.length_append, List.length_cons, List.length_nil]); omega) _ _) ?_
          clear ps
          intro w _ ps
          simp -implicitDefEqProofs only [r0, r1, r0', r1', go_sem]
          (refine ⟨_, ?_, ?_, by first | exact ps | (simp only [List.append_assoc, List.cons_append, List.nil_append] at ps; exact ps)⟩ <;> (simp only [okL, okOne, List.length_cons, List.length_nil, wbs, and_true]; (try unfold wb); omega))
  rcases hc with rfl | rfl | rfl | rfl | rfl | hc
  iterate 5
    · simp -implicitDefEqProofs only [Int.reduceBEq, Bool.false_eq_true, go_sem]
      repeat (first | ((refine CW.mono (ps.op (by (try simp only [List.length_append, List.length_cons, List.length_nil]); omega) _ _) ?_; clear ps; intro w _ ps; simp -implicitDefEqProofs (disch := omega) only [go_sem])) | ((refine CW.mono (ps.next _ (by omega)) ?_; clear ps; rintro _ _ ⟨⟨k, rfl, hk⟩, ps, -⟩; simp -implicitDefEqProofs (disch := omega) only [go_sem])))
      (refine ⟨_, ?_, ?_, by first | exact ps | (simp only [List.append_assoc, List.cons_append, List.nil_append] at ps; exact ps)⟩ <;> (simp only [okL, okOne, List.length_cons, List.length_nil, wbs, and_true]; (try unfold wb); omega))
  rcases hc with rfl | hc
  · simp -implicitDefEqProofs only [Int.reduceBEq, Bool.false_eq_true, go_sem]
    repeat (first | ((refine CW.mono (ps.op (by (try simp only [List.length_append, List.length_cons, List.length_nil]); omega) _ _) ?_; clear ps; intro w _ ps; simp -implicitDefEqProofs (disch := omega) only [go_sem])) | ((refine CW.mono (ps.next _ (by omega)) ?_; clear ps; rintro _ _ ⟨⟨k, rfl, hk⟩, ps, -⟩; simp -implicitDefEqProofs (disch := omega) only [go_sem])))
    refine CW.mono (ps.nextT _ (by omega) _) ?_
    clear ps
    rintro _ G ⟨⟨k, rfl, hk⟩, ps, -, rt⟩
    obtain ⟨z, hz⟩ : ∃ z : Int, (k : Int) = z := ⟨_, rfl⟩
    rw [hz]
    have r0 := rt 0 _ rfl
    have r1 := rt 1 _ rfl
    have r2 := rt 2 _ rfl
    rcases (by omega : z = 0 ∨ z = 1 ∨ z = 2) with rfl | rfl | rfl
    iterate 3
      · simp -implicitDefEqProofs only [r0, r1, r2, go_sem]
        repeat (first | ((refine CW.mono (ps.op (by (try simp only [List.length_append, List.length_cons, List.length_nil]); omega) _ _) ?_; clear ps; intro w _ ps; simp -implicitDefEqProofs (disch := omega) only [go_sem])) | ((refine CW.mono (ps.next _ (by omega)) ?_; clear ps; rintro _ _ ⟨⟨k, rfl, hk⟩, ps, -⟩; simp -implicitDefEqProofs (disch := omega) only [go_sem])))
        (refine ⟨_, ?_, ?_, by first | exact ps | (simp only [List.append_assoc, List.cons_append, List.nil_append] at ps; exact ps)⟩ <;> (simp only [okL, okOne, List.length_cons, List.length_nil, wbs, and_true]; (try unfold wb); omega))
  rcases hc with rfl | rfl | hc
  iterate 2
    · simp -implicitDefEqProofs only [Int.reduceBEq, Bool.false_eq_true, go_sem]
      repeat (first | ((refine CW.mono (ps.op (by (try simp only [List.length_append, List.length_cons, List.length_nil]); omega) _ _) ?_; clear ps; intro w _ ps; simp -implicitDefEqProofs (disch := omega) only [go_sem])) | ((refine CW.mono (ps.next _ (by omega)) ?_; clear ps; rintro _ _ ⟨⟨k, rfl, hk⟩, ps, -⟩; simp -implicitDefEqProofs (disch := omega) only [go_sem])))
      (refine ⟨_, ?_, ?_, by first | exact ps | (simp only [List.append_assoc, List.cons_append, List.nil_append] at ps; exact ps)⟩ <;> (simp only [okL, okOne, List.length_cons, List.length_nil, wbs, and_true]; (try unfold wb); omega))
  rcases hc with rfl | rfl | rfl
  · simp -implicitDefEqProofs only [Int.reduceBEq, Bool.false_eq_true, go_sem]
    repeat (first | ((refine CW.mono (ps.op (by (try simp only [List.length_append, List.length_cons, List.length_nil]); omega) _ _) ?_; clear ps; intro w _ ps; simp -implicitDefEqProofs (disch := omega) only [go_sem])) | ((refine CW.mono (ps.next _ (by omega)) ?_; clear ps; rintro _ _ ⟨⟨k, rfl, hk⟩, ps, -⟩; simp -implicitDefEqProofs (disch := omega) only [go_sem])))
    refine CW.mono (ps.nextT _ (by omega) _) ?_
    clear ps
    rintro _ G ⟨⟨k, rfl, hk⟩, ps, -, rt⟩
    obtain ⟨z, hz⟩ : ∃ z : Int, (k : Int) = z := ⟨_, rfl⟩
    rw [hz]
    have r0 := rt 0 _ rfl
    have r1 := rt 1 _ rfl
    rcases (by omega : z = 0 ∨ z = 1) with rfl | rfl
    iterate 2
      · simp -implicitDefEqProofs only [r0, r1, go_sem]
        repeat (first | ((refine CW.mono (ps.op (by (try simp only [List.length_append, List.length_cons, List.length_nil]); omega) _ _) ?_; clear ps; intro w _ ps; simp -implicitDefEqProofs (disch := omega) only [go_sem])) | ((refine CW.mono (ps.next _ (by omega)) ?_; clear ps; rintro _ _ ⟨⟨k, rfl, hk⟩, ps, -⟩; simp -implicitDefEqProofs (disch := omega) only [go_sem])))
        (refine ⟨_, ?_, ?_, by first | exact ps | (simp only [List.append_assoc, List.cons_append, List.nil_append] at ps; exact ps)⟩ <;> (simp only [okL, okOne, List.length_cons, List.length_nil, wbs, and_true]; (try unfold wb); omega))
  iterate 2
    · simp -implicitDefEqProofs only [Int.reduceBEq, Bool.false_eq_true, go_sem]
      repeat (first | ((refine CW.mono (ps.op (by (try simp only [List.length_append, List.length_cons, List.length_nil]); omega) _ _) ?_; clear ps; intro w _ ps; simp -implicitDefEqProofs (disch := omega) only [go_sem])) | ((refine CW.mono (ps.next _ (by omega)) ?_; clear ps; rintro _ _ ⟨⟨k, rfl, hk⟩, ps, -⟩; simp -implicitDefEqProofs (disch := omega) only [go_sem])))
      (refine ⟨_, ?_, ?_, by first | exact ps | (simp only [List.append_assoc, List.cons_append, List.nil_append] at ps; exact ps)⟩ <;> (simp only [okL, okOne, List.length_cons, List.length_nil, wbs, and_true]; (try unfold wb); omega))
set_option maxHeartbeats 4000000
structure TS (H0 : AHeap) (lo b : Nat) (H : AHeap) : Prop where
  tp : TapeR H b
  ln : lo ≤ H.next
  bl : b < lo
  kp : ∀ z, z < lo → z ≠ b → H.get z = H0.get z
  nx : H0.next ≤ H.next
theorem TS.sm {H0 H H' : AHeap} {lo b : Nat} (h : TS H0 lo b H) (s : Sm H H') : TS H0 lo b H' :=
  ⟨h.tp.sm s, Nat.le_trans h.ln s.1, h.bl, fun z h1 h2 => by rw [s.gt (Nat.lt_of_lt_of_le h1 h.ln), h.kp z h1 h2], Nat.le_trans h.nx s.1⟩
theorem TS.chg {H0 H H' : AHeap} {lo b : Nat} (h : TS H0 lo b H) {u : Option Nat} (s : Chg H H' u) (hu : ∀ z, u = some z → lo ≤ z) : TS H0 lo b H' :=
  ⟨h.tp.kp s.1 fun z hz => s.keep (by have := h.tp.lt; omega) fun e => by have := hu z e; have := h.bl; omega, Nat.le_trans h.ln s.1, h.bl, fun z h1 h2 => by rw [s.keep (Nat.lt_of_lt_of_le h1 h.ln) (fun e => by have := hu z e; omega), h.kp z h1 h2], Nat.le_trans h.nx s.1⟩
theorem TS.next {H0 H : AHeap} {lo b : Nat} (h : TS H0 lo b H) (n : Int) (hn : n ≤ 1000000) : CW MN 22 [.ptr (some (b, 0)), .int .i64 n] H fun w H' => (∃ k : Nat, w = .int .i64 (k : Int) ∧ ((k : Int) < n ∨ k = 0)) ∧ TS H0 lo b H' ∧ NxR b H H' :=
  (c_Next h.tp n hn).mono fun w H' ⟨h1, h2, h3⟩ => ⟨h1, ⟨h2, by rw [h3.1]; exact h.ln, h.bl, fun z z1 z2 => by rw [h3.2 z z2, h.kp z z1 z2], by rw [h3.1]; exact h.nx⟩, h3⟩
theorem NxR.kp {b : Nat} {H H' : AHeap} (h : NxR b H H') : KpM (b + 1) H H' := ⟨by rw [h.1]; exact Nat.le_refl _, fun z z1 z2 => h.2 z (by omega)⟩
theorem TS.nextT {H0 H : AHeap} {lo b : Nat} (h : TS H0 lo b H) (n : Int) (hn : n ≤ 1000000) (tbl : List AV) : CW MN 22 [.ptr (some (b, 0)), .int .i64 n] (H.newRow tbl) fun w H' => (∃ k : Nat, w = .int .i64 (k : Int) ∧ ((k : Int) < n ∨ k = 0)) ∧ TS H0 lo b H' ∧ (∀ j v, tbl[j]? = some v → loadA H' H.next j 1 = some [v]) ∧ H'.next = H.next + 1 ∧ KpM (b + 1) H H' :=
  ((h.sm (Chg.newRow H tbl)).next n hn).mono fun w H' ⟨h1, h2, h3⟩ => ⟨h1, h2, fun j v hj => by
    have := ((Rd.newRow H tbl).nx h3 (by have := h.tp.lt; omega)).one hj
    rwa [Nat.zero_add] at this, h3.1, (Sm.kp (Chg.newRow H tbl)).trans h3.kp⟩
theorem PS.ts {H0 H : AHeap} {lo b : Nat} {l : List In2} {v : AV} (h : PS H0 lo b H l v) : TS H0 lo b H := ⟨h.tp, h.ln, h.bl, h.kp, h.nx⟩
def nmsU : List (List Nat) := [[103, 111], [100, 111, 58], [43], [97, 116, 58, 112, 117, 116, 58], [120], [121, 57]]
theorem c_kNames (H : AHeap) : CW MN 21 [] H fun w H' => w = .slice (some (H.next, 0)) 1 6 true ∧ H' = H.newRow (nmsU.map AV.str) := by
  refine CW_of (fn := af21) rfl ?_
  dsimp only [af21, qm, q, qG, qn, qi, qb, qB, qk, qc, qo, qg, qv, qr]
  simp -implicitDefEqProofs only [go_sem]
  rfl
abbrev PrO : Option Nat → Rep Pr2 := fun _ => PrE
theorem PrO.mono {lo : Nat} : OMono lo PrO := fun _ _ _ _ _ _ h _ _ _ => h
theorem TS.push {α : Type} {E : Option Nat → Rep α} {H0 H : AHeap} {lo lo' s b : Nat} (h : TS H0 lo' b H) (hlo : lo' ≤ lo) (hl2 : lo ≤ H.next) (hE : OMono lo E) {xs : List α} {v : AV} (g : GrS lo E s H xs v) {a : α} {ys : List AV} (ha : E (ub v) H a ys) (hys : ys.length = s) {bytes : Nat} (hb : (xs.length + 1) * bytes ≤ 140737488355328) (hm : xs.length + 1 ≤ 140737488355328) :
    ∃ H2, appendF (H.newRow ys) s bytes false v (.slice (some (H.next, 0)) s 1 true) = some (.slice (some (H.next + 1, 0)) s (xs.length + 1) false, H2) ∧ TS H0 lo' b H2 ∧ GrS lo E s H2 (xs ++ [a]) (.slice (some (H.next + 1, 0)) s (xs.length + 1) false) ∧ H2.next = H.next + 2 ∧ Chg H H2 (ub v) ∧ ∀ z, ub v = some z → lo ≤ z := by
  obtain ⟨H2, e1, e2, e3, e4⟩ := g.push hE hl2 ha hys hb hm
  have hu : ∀ z, ub v = some z → lo ≤ z := fun z hz => by
    obtain ⟨cs, q1, -⟩ := g
    exact (q1.ubP hz).1
  exact ⟨H2, e1, h.chg e3 fun z hz => Nat.le_trans hlo (hu z hz), e4, e2, e3, hu⟩
theorem GrS.sh {α : Type} {E : Option Nat → Rep α} {lo s : Nat} {H : AHeap} {xs : List α} {v : AV} (g : GrS lo E s H xs v) : ∃ a s0 cl, v = .slice a s0 xs.length cl := by
  obtain ⟨cs, ⟨-, ⟨s0, rfl, h0⟩ | ⟨x, rfl, -⟩⟩, -⟩ := g
  · exact ⟨none, s0, true, by rw [h0]⟩
  · exact ⟨_, _, _, rfl⟩
theorem GrS.push2 {α : Type} {E : Option Nat → Rep α} {lo s : Nat} {H : AHeap} {xs : List α} {v : AV} (hE : OMono lo E) (h : GrS lo E s H xs v) (hlo : lo ≤ H.next) {a a' : α} {ys ys' : List AV} (ha : E (ub v) H a ys) (hys : ys.length = s) (ha' : E (ub v) H a' ys') (hys' : ys'.length = s) {bytes : Nat} (hb : (xs.length + 2) * bytes ≤ 140737488355328) (hm : xs.length + 2 ≤ 140737488355328) :
    ∃ H2, appendF (H.newRow (ys ++ ys')) s bytes false v (.slice (some (H.next, 0)) s 2 true) = some (.slice (some (H.next + 1, 0)) s (xs.length + 2) false, H2) ∧ H2.next = H.next + 2 ∧ Chg H H2 (ub v) ∧ GrS lo E s H2 (xs ++ [a, a']) (.slice (some (H.next + 1, 0)) s (xs.length + 2) false) := by
  obtain ⟨cs, h1, h2⟩ := h
  obtain ⟨H2, e1, e2, e3, e4⟩ := h1.pushN (ys := ys ++ ys') (m := 2) (fun z hz => hz.2) (by rw [List.length_append, hys, hys']; omega) (by omega) hb hm
  have hen : (xs ++ [a, a']).length = xs.length + 2 := by simp
  refine ⟨H2, e1, e2, e3, cs ++ (ys ++ ys'), ?_, fun j hj => ?_⟩
  · rw [hen]
    exact e4.mono fun z hz => by rcases hz with hz | rfl <;> omega
  · have hcl := h1.1
    have kp : ∀ b l, E (ub v) H b l → E (some (H.next + 1)) H2 b l := fun b l hb => hE _ _ _ _ _ _ hb (by omega) (fun z z1 z2 z3 => e3.keep z2 z3) fun z hz => .inl (by have := Option.some.inj hz; omega)
    show E (some (H.next + 1)) H2 _ _
    by_cases hlt : j < xs.length
    · have hle : (j + 1) * s ≤ xs.length * s := Nat.mul_le_mul_right s (by omega)
      rw [Nat.add_mul, Nat.one_mul] at hle
      have e : ((cs ++ (ys ++ ys')).drop (j * s)).take s = (cs.drop (j * s)).take s := by
        rw [List.drop_append_of_le_length (by omega), List.take_append_of_le_length (by simp; omega)]
      rw [e, List.getElem_append_left hlt]
      exact kp _ _ (h2 j hlt)
    · rw [hen] at hj
      by_cases hj' : j = xs.length
      · subst hj'
        have e : ((cs ++ (ys ++ ys')).drop (xs.length * s)).take s = ys := by
          rw [← hcl, List.drop_left, List.take_append_of_le_length (by omega), List.take_of_length_le (by omega)]
        rw [e, List.getElem_append_right (Nat.le_refl _)]
        simp only [Nat.sub_self, List.getElem_cons_zero]
        exact kp _ _ ha
      · have hj'' : j = xs.length + 1 := by omega
        subst hj''
        have e : ((cs ++ (ys ++ ys')).drop ((xs.length + 1) * s)).take s = ys' := by
          rw [Nat.add_mul, Nat.one_mul, ← hcl, ← List.drop_drop, List.drop_left, ← hys, List.drop_left, List.take_of_length_le (by omega)]
        rw [e, List.getElem_append_right (by omega)]
        simp only [show xs.length + 1 - xs.length = 1 by omega, List.getElem_cons_succ, List.getElem_cons_zero]
        exact kp _ _ ha'
def numL (A : List Pr2) : Prop := ∀ x, x ∈ A → x.1 = 3 ∧ -1073741824 ≤ x.2 ∧ x.2 ≤ 1073741823
def selL (n : Nat) : List Pr2 := (List.range n).map fun (i : Nat) => ((5 : Int), (i : Int))
def clsL (size : Int) (C : List Pr2) : Prop := ∀ x, x ∈ C → x.1 = 6 ∧ 2 ≤ x.2 ∧ x.2 < size
def litsOk (size : Int) (xs : List Pr2) : Prop := ∃ A C, A.length = 4 ∧ numL A ∧ C.length = 2 ∧ clsL size C ∧ xs = A ++ selL 6 ++ C ++ [(7, 7), (7, 8)]
theorem c_lits {H0 H : AHeap} {lo b : Nat} (ts : TS H0 lo b H) {size : Int} (h3 : 3 ≤ size) (h12 : size ≤ 12) : CW MN 42 [.ptr (some (b, 0)), .int .i64 size] H fun w H' => ∃ xs, litsOk size xs ∧ GrS lo PrO 2 H' xs w ∧ TS H0 lo b H' := by
  refine CW_of (fn := af42) rfl ?_
  dsimp only [af42, qm, q, qG, qn, qi, qb, qB, qk, qc, qo, qg, qv, qr]
  simp -implicitDefEqProofs only [go_sem]
  refine WP_mono (Q := fun ex fr H' => ex = .exit 0 ∧ fr.get 0 = some (.ptr (some (b, 0))) ∧ fr.get 1 = some (.int .i64 size) ∧ ∃ A v, fr.get 5 = some v ∧ A.length = 4 ∧ numL A ∧ GrS lo PrO 2 H' A v ∧ TS H0 lo b H') ?_ (WP_loop (fun n fr H' => ∃ i : Int, (n : Int) = 4 - i ∧ 0 ≤ i ∧ i ≤ 4 ∧ fr.get 0 = some (.ptr (some (b, 0))) ∧ fr.get 1 = some (.int .i64 size) ∧ fr.get 6 = some (.int .i64 i) ∧ ∃ A v, fr.get 5 = some v ∧ (A.length : Int) = i ∧ numL A ∧ GrS lo PrO 2 H' A v ∧ TS H0 lo b H') 4 ?_ ?_)
  rotate_left
  · refine ⟨0, rfl, by omega, by omega, ?_⟩
    simp -implicitDefEqProofs only [go_sem]
    exact ⟨[], _, rfl, rfl, by simp [numL], GrS.nil, ts⟩
  · rintro n fr H1 ⟨i, hn, hi0, hi4, g0, g1, g6, A, v, g5, hA, hnum, gr, ts⟩
    by_cases hlt : i < 4
    · simp -implicitDefEqProofs only [g0, g1, g5, g6, hlt, go_sem]
      refine CW.mono (ts.nextT _ (by omega) _) ?_
      rintro _ G ⟨⟨k, rfl, hk⟩, ts1, rt, nG, kG⟩
      obtain ⟨z, hz⟩ : ∃ z : Int, (k : Int) = z := ⟨_, rfl⟩
      rw [hz]
      have r0 := rt 0 _ rfl
      have r1 := rt 1 _ rfl
      have r2 := rt 2 _ rfl
      have r3 := rt 3 _ rfl
      have r4 := rt 4 _ rfl
      have gr1 := gr.kp PrO.mono (m := b + 1) ts.bl kG
      have hw : IntKind.i64.wrap (i + 1) = i + 1 := wrap64 (by omega) (by omega)
      have step : ∀ y : Int, -1073741824 ≤ y ∧ y ≤ 1073741823 → ∃ H2, appendF (G.newRow [.int .i64 3, .int .i64 y]) 2 16 false v (.slice (some (G.next, 0)) 2 1 true) = some (.slice (some (G.next + 1, 0)) 2 (A.length + 1) false, H2) ∧ ∃ A' v', some (.slice (some (G.next + 1, 0)) 2 (A.length + 1) false : AV) = some v' ∧ (A'.length : Int) = i + 1 ∧ numL A' ∧ GrS lo PrO 2 H2 A' v' ∧ TS H0 lo b H2 := fun y hy => by
        have t1 := ts1.ln
        obtain ⟨H2, e1, e2, e3, -⟩ := ts1.push (Nat.le_refl _) t1 PrO.mono gr1 (a := (3, y)) (ys := [.int .i64 3, .int .i64 y]) ⟨rfl, by unfold prOk I64; omega⟩ rfl (bytes := 16) (by omega) (by omega)
        refine ⟨H2, e1, _, _, rfl, by simp; omega, ?_, e3, e2⟩
        intro x hx
        rcases List.mem_append.1 hx with hx | hx
        · exact hnum x hx
        · obtain rfl : x = (3, y) := by simpa using hx
          exact ⟨rfl, hy⟩
      obtain ⟨av, sv, cv, rfl⟩ := gr.sh
      rcases (by omega : z = 0 ∨ z = 1 ∨ z = 2 ∨ z = 3 ∨ z = 4) with rfl | rfl | rfl | rfl | rfl
      · obtain ⟨H2, e1, A', v', e2, e3⟩ := step 0 (by omega)
        simp -implicitDefEqProofs only [g0, g1, g5, g6, hw, r0, e1, go_sem]
        exact ⟨(3 - i).toNat, by omega, i + 1, by omega, by omega, by omega, rfl, A', v', e2, e3⟩
      · obtain ⟨H2, e1, A', v', e2, e3⟩ := step 7 (by omega)
        simp -implicitDefEqProofs only [g0, g1, g5, g6, hw, r1, e1, go_sem]
        exact ⟨(3 - i).toNat, by omega, i + 1, by omega, by omega, by omega, rfl, A', v', e2, e3⟩
      · obtain ⟨H2, e1, A', v', e2, e3⟩ := step 1073741823 (by omega)
        simp -implicitDefEqProofs only [g0, g1, g5, g6, hw, r2, e1, go_sem]
        exact ⟨(3 - i).toNat, by omega, i + 1, by omega, by omega, by omega, rfl, A', v', e2, e3⟩
      · obtain ⟨H2, e1, A', v', e2, e3⟩ := step (-1073741824) (by omega)
        simp -implicitDefEqProofs only [g0, g1, g5, g6, hw, r3, e1, go_sem]
        exact ⟨(3 - i).toNat, by omega, i + 1, by omega, by omega, by omega, rfl, A', v', e2, e3⟩
      · obtain ⟨H2, e1, A', v', e2, e3⟩ := step 100000 (by omega)
        simp -implicitDefEqProofs only [g0, g1, g5, g6, hw, r4, e1, go_sem]
        exact ⟨(3 - i).toNat, by omega, i + 1, by omega, by omega, by omega, rfl, A', v', e2, e3⟩
    · simp -implicitDefEqProofs only [g0, g1, g5, g6, hlt, Bool.false_eq_true, go_sem]
      exact ⟨A, v, rfl, by omega, hnum, gr, ts⟩
  rintro ex fr H1 ⟨rfl, g0, g1, A, v, g5, hA, hnum, gr, ts⟩
  simp -implicitDefEqProofs only [g0, g1, g5, go_sem]
  refine CW.mono (c_kNames H1) ?_
  rintro _ _ ⟨rfl, rfl⟩
  have ts := ts.sm (Chg.newRow H1 (nmsU.map AV.str))
  have gr := gr.kp PrO.mono (Nat.le_refl _) (Sm.kp (m := lo) (Chg.newRow H1 (nmsU.map AV.str)))
  generalize H1.newRow (nmsU.map AV.str) = H2 at *
  simp -implicitDefEqProofs only [g0, g1, g5, go_sem]
  refine WP_mono (Q := fun ex fr H' => ex = .exit 2 ∧ fr.get 0 = some (.ptr (some (b, 0))) ∧ fr.get 1 = some (.int .i64 size) ∧ ∃ v, fr.get 5 = some v ∧ GrS lo PrO 2 H' (A ++ selL 6) v ∧ TS H0 lo b H') ?_ (WP_loop (fun n fr H' => ∃ i : Nat, n = 6 - i ∧ i ≤ 6 ∧ fr.get 0 = some (.ptr (some (b, 0))) ∧ fr.get 1 = some (.int .i64 size) ∧ fr.get 23 = some (.int .i64 6) ∧ fr.get 24 = some (.int .i64 (i : Int)) ∧ ∃ v, fr.get 5 = some v ∧ GrS lo PrO 2 H' (A ++ selL i) v ∧ TS H0 lo b H') 6 ?_ ?_)
  rotate_left
  · refine ⟨0, rfl, by omega, ?_⟩
    simp -implicitDefEqProofs only [g0, g1, g5, go_sem]
    exact ⟨v, rfl, by simpa [selL] using gr, ts⟩
  · rintro n fr H3 ⟨i, hn, hi, g0, g1, g23, g24, v, g5, gr, ts⟩
    by_cases hlt : i < 6
    · have hlt' : (i : Int) < 6 := by omega
      have hw : IntKind.i64.wrap ((i : Int) + 1) = ((i + 1 : Nat) : Int) := by rw [wrap64 (by omega) (by omega)]; omega
      have hl : (A ++ selL i).length = 4 + i := by simp [selL, hA]
      have t1 := ts.ln
      obtain ⟨H4, e1, e2, e3, -⟩ := ts.push (Nat.le_refl _) t1 PrO.mono gr (a := (5, (i : Int))) (ys := [.int .i64 5, .int .i64 (i : Int)]) ⟨rfl, by unfold prOk I64; omega⟩ rfl (bytes := 16) (by omega) (by omega)
      have hs : A ++ selL i ++ [(5, (i : Int))] = A ++ selL (i + 1) := by simp [selL, List.range_succ]
      rw [hs] at e3
      obtain ⟨av, sv, cv, rfl⟩ := gr.sh
      simp -implicitDefEqProofs only [g0, g1, g5, g23, g24, hlt', e1, hw, go_sem]
      exact ⟨6 - (i + 1), by omega, i + 1, rfl, by omega, rfl, _, rfl, e3, e2⟩
    · have hlt' : ¬ (i : Int) < 6 := by omega
      obtain rfl : i = 6 := by omega
      simp -implicitDefEqProofs only [g0, g1, g5, g23, g24, hlt', Bool.false_eq_true, go_sem]
      exact ⟨v, rfl, gr, ts⟩
  rintro ex fr H3 ⟨rfl, g0, g1, v, g5, gr, ts⟩
  simp -implicitDefEqProofs only [g0, g1, g5, go_sem]
  refine WP_mono (Q := fun ex fr H' => ex = .exit 4 ∧ ∃ C v, fr.get 5 = some v ∧ C.length = 2 ∧ clsL size C ∧ GrS lo PrO 2 H' (A ++ selL 6 ++ C) v ∧ TS H0 lo b H') ?_ (WP_loop (fun n fr H' => ∃ i : Int, (n : Int) = 2 - i ∧ 0 ≤ i ∧ i ≤ 2 ∧ fr.get 0 = some (.ptr (some (b, 0))) ∧ fr.get 1 = some (.int .i64 size) ∧ fr.get 8 = some (.int .i64 i) ∧ ∃ C v, fr.get 5 = some v ∧ (C.length : Int) = i ∧ clsL size C ∧ GrS lo PrO 2 H' (A ++ selL 6 ++ C) v ∧ TS H0 lo b H') 2 ?_ ?_)
  rotate_left
  · refine ⟨0, rfl, by omega, by omega, ?_⟩
    simp -implicitDefEqProofs only [g0, g1, g5, go_sem]
    exact ⟨[], v, rfl, rfl, by simp [clsL], by simpa using gr, ts⟩
  · rintro n fr H4 ⟨i, hn, hi0, hi2, g0, g1, g8, C, v, g5, hC, hcl, gr, ts⟩
    by_cases hlt : i < 2
    · have hw : IntKind.i64.wrap (i + 1) = i + 1 := wrap64 (by omega) (by omega)
      have hw2 : IntKind.i64.wrap (size - 2) = size - 2 := wrap64 (by omega) (by omega)
      simp -implicitDefEqProofs only [g0, g1, g5, g8, hlt, hw2, go_sem]
      refine CW.mono (ts.next _ (by omega)) ?_
      rintro _ G ⟨⟨k, rfl, hk⟩, ts1, nx⟩
      have hw3 : IntKind.i64.wrap (2 + (k : Int)) = 2 + (k : Int) := wrap64 (by omega) (by omega)
      have gr1 := gr.kp PrO.mono (m := b + 1) ts.bl nx.kp
      have hl : (A ++ selL 6 ++ C).length = 10 + C.length := by simp [selL, hA]; omega
      have t1 := ts1.ln
      obtain ⟨H5, e1, e2, e3, -⟩ := ts1.push (Nat.le_refl _) t1 PrO.mono gr1 (a := (6, 2 + (k : Int))) (ys := [.int .i64 6, .int .i64 (2 + (k : Int))]) ⟨rfl, by unfold prOk I64; omega⟩ rfl (bytes := 16) (by omega) (by omega)
      rw [List.append_assoc] at e3
      obtain ⟨av, sv, cv, rfl⟩ := gr.sh
      simp -implicitDefEqProofs only [g0, g1, g5, g8, hw, hw3, e1, go_sem]
      refine ⟨(1 - i).toNat, by omega, i + 1, by omega, by omega, by omega, rfl, _, _, rfl, by simp; omega, ?_, e3, e2⟩
      intro x hx
      rcases List.mem_append.1 hx with hx | hx
      · exact hcl x hx
      · obtain rfl : x = (6, 2 + (k : Int)) := by simpa using hx
        exact ⟨rfl, by dsimp only; omega, by dsimp only; omega⟩
    · simp -implicitDefEqProofs only [g0, g1, g5, g8, hlt, Bool.false_eq_true, go_sem]
      exact ⟨C, v, rfl, by omega, hcl, gr, ts⟩
  rintro ex fr H4 ⟨rfl, C, v, g5, hC, hcl, gr, ts⟩
  have hl : (A ++ selL 6 ++ C).length = 12 := by simp [selL, hA, hC]
  have t1 := ts.ln
  obtain ⟨H5, e1, e2, e3, e4⟩ := gr.push2 PrO.mono t1 (a := (7, 7)) (ys := [.int .i64 7, .int .i64 7]) (a' := (7, 8)) (ys' := [.int .i64 7, .int .i64 8]) ⟨rfl, by unfold prOk I64; omega⟩ rfl ⟨rfl, by unfold prOk I64; omega⟩ rfl (bytes := 16) (by omega) (by omega)
  simp only [List.cons_append, List.nil_append] at e1
  have hu : ∀ z, ub v = some z → lo ≤ z := fun z hz => by
    obtain ⟨cs, q1, -⟩ := gr
    exact (q1.ubP hz).1
  obtain ⟨av, sv, cv, rfl⟩ := gr.sh
  simp -implicitDefEqProofs only [g5, e1, go_sem]
  exact ⟨_, ⟨A, C, hA, hnum, hC, hcl, rfl⟩, e4, ts.chg e3 hu⟩
set_option maxHeartbeats 4000000
theorem TS.base {H0 H : AHeap} {lo b : Nat} (h : TS H0 lo b H) : TS H lo b H := ⟨h.tp, h.ln, h.bl, fun _ _ _ => rfl, Nat.le_refl _⟩
theorem TS.comp {H0 H H' : AHeap} {lo lo' b : Nat} (h : TS H0 lo b H) (h' : TS H lo' b H') (hl : lo ≤ lo') : TS H0 lo b H' :=
  ⟨h'.tp, Nat.le_trans h.ln h'.nx, h.bl, fun z h1 h2 => by rw [h'.kp z (by omega) h2, h.kp z h1 h2], Nat.le_trans h.nx h'.nx⟩
theorem PS.base {H0 H : AHeap} {lo b : Nat} {l : List In2} {v : AV} (h : PS H0 lo b H l v) : PS H lo b H l v := ⟨h.tp, h.cd, h.ln, h.bl, fun _ _ _ => rfl, Nat.le_refl _⟩
theorem PS.put {H0 H H' : AHeap} {lo b y : Nat} {l : List In2} {v : AV} (h : PS H0 lo b H l v) (hn : H'.next = H.next) (hg : ∀ z, z ≠ y → H'.get z = H.get z) (hy : b < y) (hyl : y < lo) : PS H' lo b H' l v :=
  ⟨h.tp.kp (by omega) fun z hz => hg z (by omega), h.cd.kp (m := y + 1) hyl ⟨by omega, fun z z1 z2 => hg z (by omega)⟩, by rw [hn]; exact h.ln, h.bl, fun _ _ _ => rfl, Nat.le_refl _⟩
theorem TS.put {H0 H H' : AHeap} {lo b y : Nat} (h : TS H0 lo b H) (hn : H'.next = H.next) (hg : ∀ z, z ≠ y → H'.get z = H.get z) (hy : lo ≤ y) : TS H0 lo b H' :=
  ⟨h.tp.kp (by omega) fun z hz => hg z (by have := h.bl; omega), by rw [hn]; exact h.ln, h.bl, fun z h1 h2 => by rw [hg z (by omega), h.kp z h1 h2], by rw [hn]; exact h.nx⟩
def MeG (lo : Nat) (u : Option Nat) : Rep UMethod := fun H m l => ∃ v w, l = [iv m.args, iv m.temps, v, w] ∧ I64 m.args ∧ I64 m.temps ∧ GrS lo PrO 2 H m.lits v ∧ CodeR lo H m.code w ∧ (∀ z, ub v = some z → u ≠ some z) ∧ (∀ z, ub w = some z → u ≠ some z) ∧ m.lits.length ≤ maxLen ∧ m.code.length ≤ maxLen
theorem Gw.keep1 {H H' : AHeap} {lo s n : Nat} {v : AV} {cs : List AV} (h : Gw H s v n cs fun z => lo ≤ z ∧ z < H.next) (hl : H.next ≤ H'.next) (hg : ∀ z, ub v = some z → H'.get z = H.get z) : Gw H' s v n cs fun z => lo ≤ z ∧ z < H'.next := (h.keep hl hg).mono fun z hz => ⟨hz.1, by omega⟩
theorem GrS.keep1 {lo : Nat} {H H' : AHeap} {xs : List Pr2} {v : AV} (h : GrS lo PrO 2 H xs v) (hl : H.next ≤ H'.next) (hg : ∀ z, ub v = some z → H'.get z = H.get z) : GrS lo PrO 2 H' xs v := by
  obtain ⟨cs, h1, h2⟩ := h
  exact ⟨cs, h1.keep1 hl hg, h2⟩
theorem GrS.ubl {α : Type} {E : Option Nat → Rep α} {lo s : Nat} {H : AHeap} {xs : List α} {v : AV} (h : GrS lo E s H xs v) {z : Nat} (hz : ub v = some z) : lo ≤ z ∧ z < H.next := by
  obtain ⟨cs, h1, -⟩ := h
  exact h1.ubP hz
theorem CodeR.keep1 {lo : Nat} {H H' : AHeap} {c : List Nat} {v : AV} (h : CodeR lo H c v) (hl : H.next ≤ H'.next) (hg : ∀ z, ub v = some z → H'.get z = H.get z) : CodeR lo H' c v := ⟨h.1.keep1 hl hg, h.2⟩
theorem MeG.mono {lo : Nat} : OMono lo (MeG lo) := fun H H' u u' a l ⟨v, w, e, h1, h2, h3, h4, h5, h6, h7⟩ k1 k2 k3 => by
  have b1 := fun z hz => h3.ubl (z := z) hz
  have b2 := fun z hz => h4.1.ubP (y := z) hz
  have n1 : ∀ (y : AV), (∀ z, ub y = some z → u ≠ some z) → (∀ z, ub y = some z → lo ≤ z ∧ z < H.next) → ∀ z, ub y = some z → u' ≠ some z := fun y h5 hb z hz e => by
    rcases k3 z e with h | h
    · have := (hb z hz).2; omega
    · exact h5 z hz h
  exact ⟨v, w, e, h1, h2, h3.keep1 k1 fun z hz => k2 z (b1 z hz).1 (b1 z hz).2 (h5 z hz), h4.keep1 k1 fun z hz => k2 z (b2 z hz).1 (b2 z hz).2 (h6 z hz), n1 v h5 b1, n1 w h6 b2, h7⟩
theorem MeG.me {lo : Nat} {H : AHeap} (u : Option Nat) (a : UMethod) (l : List AV) (h : MeG lo u H a l) : MeE H a l := by
  obtain ⟨v, w, e, h1, h2, h3, h4, -, -, h5, h6⟩ := h
  exact ⟨v, w, e, h1, h2, h3.slE (fun _ _ _ h => h) h5, h4.slE h6⟩
def methOk (size args : Int) (m : UMethod) : Prop := m.args = args ∧ m.temps = 2 ∧ litsOk size m.lits ∧ ∃ l e, m.code = flatI (l ++ [(e, 0)]) ∧ okL (l ++ [(e, 0)]) ∧ (e = 14 ∨ e = 19) ∧ l.length ≤ 30
theorem litsOk.len {size : Int} {xs : List Pr2} (h : litsOk size xs) : xs.length = 14 := by
  obtain ⟨A, C, h1, -, h2, -, rfl⟩ := h
  simp [selL, h1, h2]
structure MF (H0 : AHeap) (lo b x y : Nat) (args : Int) (xs : List Pr2) (vl : AV) (H : AHeap) (v : AV) : Prop where
  box : Arr H y [.int .i64 args, .int .i64 2, vl, v] (fun _ => False)
  out : Arr H x [.int .i64 0, .int .i64 0, .slice none 1 0 true, .slice none 1 0 true] (fun _ => False)
  gl : GrS (x + 1) PrO 2 H xs vl
  ts : TS H0 lo b H
  hv : ∀ z, ub vl = some z → z < y
  ol : lo ≤ x
  oy : x < y
theorem MF.tr {H0 H H' : AHeap} {lo b x y : Nat} {args : Int} {xs : List Pr2} {vl v : AV} (h : MF H0 lo b x y args xs vl H v) {l : List In2} {w : AV} (p : PS H (y + 1) b H' l w) : MF H0 lo b x y args xs vl H' v := by
  have hb := h.ts.bl
  have := h.ol; have := h.oy
  refine ⟨h.box.keep p.nx (p.kp y (by omega) (by omega)), h.out.keep p.nx (p.kp x (by omega) (by omega)), h.gl.keep1 p.nx fun z hz => p.kp z (by have := h.hv z hz; omega) (by have := (h.gl.ubl hz).1; omega), h.ts.comp p.ts (by omega), h.hv, h.ol, h.oy⟩
theorem MF.put {H0 H : AHeap} {lo b x y : Nat} {args : Int} {xs : List Pr2} {vl v : AV} (h : MF H0 lo b x y args xs vl H v) {K : AHeap} {l : List In2} {w : AV} (p : PS K (y + 1) b H l w) : ∃ H', storeA H y 3 [w] = some H' ∧ MF H0 lo b x y args xs vl H' w ∧ PS H' (y + 1) b H' l w := by
  have hb := h.ts.bl
  have := h.ol; have := h.oy
  obtain ⟨H', e, n, a, g⟩ := h.box.store (o := 3) (vs := [w]) (cs' := [.int .i64 args, .int .i64 2, vl, w]) (by simp) rfl
  have g' : ∀ z, z ≠ y → H'.get z = H.get z := fun z hz => g z hz (fun h => h)
  exact ⟨H', e, ⟨a, h.out.keep (by omega) (g' x (by omega)), h.gl.keep1 (by omega) fun z hz => g' z (by have := h.hv z hz; omega), h.ts.put n g' (by omega), h.hv, h.ol, h.oy⟩, p.put n g' (by omega) (by omega)⟩
theorem MF.l3 {H0 H : AHeap} {lo b x y : Nat} {args : Int} {xs : List Pr2} {vl v : AV} (h : MF H0 lo b x y args xs vl H v) : loadA H y 3 1 = some [v] := by
  have := h.box.rd.one (j := 3) rfl
  rwa [Nat.zero_add] at this
theorem GrS.low {α : Type} {E : Option Nat → Rep α} {lo lo' s : Nat} {H : AHeap} {xs : List α} {v : AV} (h : GrS lo E s H xs v) (hl : lo' ≤ lo) : GrS lo' E s H xs v := by
  obtain ⟨cs, h1, h2⟩ := h
  exact ⟨cs, h1.mono fun z hz => ⟨by omega, hz.2⟩, h2⟩
theorem CodeR.low {lo lo' : Nat} {H : AHeap} {c : List Nat} {v : AV} (h : CodeR lo H c v) (hl : lo' ≤ lo) : CodeR lo' H c v := ⟨h.1.mono fun z hz => ⟨by omega, hz.2⟩, h.2⟩
theorem CodeR.sh {lo : Nat} {H : AHeap} {c : List Nat} {v : AV} (h : CodeR lo H c v) : ∃ a s0 cl, v = .slice a s0 c.length cl := by
  obtain ⟨⟨-, ⟨s0, rfl, h0⟩ | ⟨x, rfl, -⟩⟩, -⟩ := h
  · exact ⟨none, s0, true, by rw [h0]⟩
  · exact ⟨_, _, _, rfl⟩
theorem MF.fin {H0 H : AHeap} {lo b x y : Nat} {args size : Int} {xs : List Pr2} {vl v : AV} (h : MF H0 lo b x y args xs vl H v) {l : List In2} {e : Nat} (p : PS H (y + 1) b H (l ++ [(e, 0)]) v) (he : e = 14 ∨ e = 19) (ok : okL l) (hl : l.length ≤ 30) (hx : litsOk size xs) (ha : 0 ≤ args ∧ args ≤ 2) :
    loadA H y 0 4 = some [.int .i64 args, .int .i64 2, vl, v] ∧ ∃ H', storeA H x 0 [.int .i64 args, .int .i64 2, vl, v] = some H' ∧ loadA H' x 0 4 = some [.int .i64 args, .int .i64 2, vl, v] ∧ ∃ m, MeG lo none H' m [.int .i64 args, .int .i64 2, vl, v] ∧ methOk size args m ∧ TS H0 lo b H' := by
  have hb := h.ts.bl
  have := h.ol; have := h.oy
  obtain ⟨H', e1, n, a, g⟩ := h.out.store (o := 0) (vs := [.int .i64 args, .int .i64 2, vl, v]) (cs' := [.int .i64 args, .int .i64 2, vl, v]) (by simp) rfl
  have g' : ∀ z, z ≠ x → H'.get z = H.get z := fun z hz => g z hz (fun h => h)
  refine ⟨h.box.rd.load rfl, H', e1, a.rd.load rfl, ⟨args, 2, xs, flatI (l ++ [(e, 0)])⟩, ?_, ⟨rfl, rfl, hx, l, e, rfl, ok.app ?_, he, hl⟩, h.ts.put n g' (by omega)⟩
  · refine ⟨vl, v, rfl, ?_, ?_, ?_, ?_, (fun _ _ h => by cases h), (fun _ _ h => by cases h), ?_, ?_⟩
    · show I64 args; unfold I64; omega
    · show I64 2; unfold I64; omega
    · exact (h.gl.low (by omega)).keep1 (by omega) fun z hz => g' z (by have := (h.gl.ubl hz).1; omega)
    · exact (p.cd.low (by omega)).keep1 (by omega) fun z hz => g' z (by have := (p.cd.1.ubP hz).1; omega)
    · show xs.length ≤ maxLen; rw [hx.len]; unfold maxLen; omega
    · show (flatI (l ++ [(e, 0)])).length ≤ maxLen
      rw [flatI_len, List.length_append, List.length_singleton]; unfold maxLen; omega
  · rcases he with rfl | rfl <;> simp [okL, okOne]
theorem c_method {H0 H : AHeap} {lo b : Nat} (ts : TS H0 lo b H) {args size : Int} (ha : 0 ≤ args ∧ args ≤ 2) (h3 : 3 ≤ size) (h12 : size ≤ 12) (fl : Bool) : CW MN 23 [.ptr (some (b, 0)), .int .i64 args, .int .i64 size, .bool fl] H fun w H' => ∃ m l, w = .agg l ∧ MeG lo none H' m l ∧ methOk size args m ∧ TS H0 lo b H' := by
  refine CW_of (fn := af23) rfl ?_
  dsimp only [af23, qm, q, qG, qn, qi, qb, qB, qk, qc, qo, qg, qv, qr]
  have s1 := Chg.newRow H [.int .i64 0, .int .i64 0, .slice none 1 0 true, .slice none 1 0 true]
  have a8 := Arr.newRow H [.int .i64 0, .int .i64 0, .slice none 1 0 true, .slice none 1 0 true] fun _ => False
  have ts1 := ts.sm s1
  have hn1 : (H.newRow [.int .i64 0, .int .i64 0, .slice none 1 0 true, .slice none 1 0 true]).next = H.next + 1 := rfl
  have hlo := ts.ln
  generalize eH1 : H.newRow [.int .i64 0, .int .i64 0, .slice none 1 0 true, .slice none 1 0 true] = H1 at s1 a8 ts1 hn1
  have ts1' : TS H1 (H.next + 1) b H1 := ⟨ts1.tp, by omega, by have := ts.bl; omega, fun _ _ _ => rfl, Nat.le_refl _⟩
  simp -implicitDefEqProofs only [eH1, go_sem]
  refine CW.mono (c_lits ts1' h3 h12) ?_
  rintro vl H2 ⟨xs, hxs, gl, ts2⟩
  have hbl := ts.bl
  have n2 := ts2.nx
  have a8 := a8.keep ts2.nx (ts2.kp H.next (by omega) (by omega))
  have t0 : TS H0 lo b H2 := ts1.comp ts2 (by omega)
  have hvl := fun z (hz : ub vl = some z) => (gl.ubl hz).2
  obtain ⟨al, sl, cl, rfl⟩ := gl.sh
  obtain ⟨H3, e3, n3, s3, a9⟩ := store_own H2 [.int .i64 0, .int .i64 0, .slice none 1 0 true, .slice none 1 0 true] [.int .i64 args, .int .i64 2, .slice al sl xs.length cl, .slice none 1 0 true] rfl
  have mf : MF H0 lo b H.next H2.next args xs (.slice al sl xs.length cl) H3 (.slice none 1 0 true) := ⟨a9, a8.sm s3, gl.keep1 s3.1 fun z hz => s3.gt (hvl z hz), t0.sm s3, hvl, hlo, by omega⟩
  have ps : PS H3 (H2.next + 1) b H3 [] (.slice none 1 0 true) := ⟨mf.ts.tp, CodeR.nil _ _, by omega, by omega, fun _ _ _ => rfl, Nat.le_refl _⟩
  simp -implicitDefEqProofs only [e3, go_sem]
  refine CW.mono (ps.next _ (by omega)) ?_
  rintro _ H4 ⟨⟨k, rfl, hk⟩, ps', -⟩
  have mf := mf.tr ps'
  have ps := ps'.base
  clear ps' eH1 e3 a9 a8 s3 s1 ts1 ts1' ts2 t0
  have hw : IntKind.i64.wrap (1 + (k : Int)) = ((k + 1 : Nat) : Int) := by rw [wrap64 (by omega) (by omega)]; omega
  generalize hy : H2.next = y at *
  generalize hx : H.next = x at *
  simp -implicitDefEqProofs only [hw, go_sem]
  refine WP_mono (Q := fun ex fr H' => ex = .exit 0 ∧ fr.get 0 = some (.ptr (some (b, 0))) ∧ fr.get 3 = some (.bool fl) ∧ fr.get 8 = some (.ptr (some (x, 0))) ∧ fr.get 9 = some (.ptr (some (y, 0))) ∧ ∃ l v, okL l ∧ l.length ≤ 25 ∧ MF H0 lo b x y args xs (.slice al sl xs.length cl) H' v ∧ PS H' (y + 1) b H' l v) ?_ (WP_loop (fun n fr H' => fr.get 0 = some (.ptr (some (b, 0))) ∧ fr.get 3 = some (.bool fl) ∧ fr.get 8 = some (.ptr (some (x, 0))) ∧ fr.get 9 = some (.ptr (some (y, 0))) ∧ fr.get 10 = some (.int .i64 (n : Int)) ∧ ∃ l v, okL l ∧ l.length + 5 * n ≤ 25 ∧ MF H0 lo b x y args xs (.slice al sl xs.length cl) H' v ∧ PS H' (y + 1) b H' l v) (k + 1) ?_ ?_)
  rotate_left
  · simp -implicitDefEqProofs only [go_sem]
    exact ⟨[], _, trivial, by simp; omega, mf, ps⟩
  · rintro n fr H5 ⟨g0, g3, g8, g9, g10, l, v, ok, hl, mf, ps⟩
    by_cases hn : (0 : Int) < (n : Int)
    · have l3 := mf.l3
      simp -implicitDefEqProofs only [g0, g3, g8, g9, g10, hn, l3, go_sem]
      refine CW.mono (c_piece ps (by omega)) ?_
      rintro w H6 ⟨l', ok', hl', ps'⟩
      obtain ⟨H7, e7, mf', ps''⟩ := (mf.tr ps').put ps'
      have hw : IntKind.i64.wrap ((n : Int) - 1) = ((n - 1 : Nat) : Int) := by rw [wrap64 (by omega) (by omega)]; omega
      obtain ⟨aw, sw, cw, rfl⟩ : ∃ a s0 c, w = .slice a s0 (flatI (l ++ l')).length c := by
        obtain ⟨⟨-, ⟨s0, rfl, h0⟩ | ⟨x, rfl, -⟩⟩, -⟩ := ps'.cd
        · exact ⟨none, s0, true, by rw [h0]⟩
        · exact ⟨_, _, _, rfl⟩
      simp -implicitDefEqProofs only [g0, g3, g8, g9, g10, e7, hw, go_sem]
      exact ⟨n - 1, by omega, rfl, l ++ l', _, ok.app ok', by rw [List.length_append]; omega, mf', ps''⟩
    · simp -implicitDefEqProofs only [g0, g3, g8, g9, g10, hn, Bool.false_eq_true, go_sem]
      exact ⟨l, v, ok, by omega, mf, ps⟩
  rintro ex fr H5 ⟨rfl, g0, g3, g8, g9, l, v, ok, hl, mf, ps⟩
  simp -implicitDefEqProofs only [g0, g3, g8, g9, go_sem]
  refine CW.mono (ps.next _ (by omega)) ?_
  rintro _ H6 ⟨⟨k, rfl, hk⟩, ps', -⟩
  have mf := mf.tr ps'
  have ps := ps'.base
  clear ps'
  by_cases hk0 : (k : Int) = 0
  have hk1 : ((k : Int) == 0) = true := by simpa using hk0
  have l3 := mf.l3
  simp -implicitDefEqProofs only [hk1, l3, g0, g3, g8, g9, go_sem]
  refine CW.mono (ps.op (by omega) 3 0) ?_
  intro w1 H7 ps7
  simp -implicitDefEqProofs only [go_sem]
  refine CW.mono (ps7.op (by rw [List.length_append, List.length_singleton]; omega) 13 4) ?_
  intro w2 H8 ps8
  obtain ⟨H9, e9, mfK, psK⟩ := (mf.tr ps8).put ps8
  have okK : okL (l ++ [(wb 3, wb 0)] ++ [(wb 13, wb 4)]) := (ok.app (by simp [okL, okOne, wbs])).app (by simp [okL, okOne, wbs])
  have hlK : (l ++ [(wb 3, wb 0)] ++ [(wb 13, wb 4)]).length ≤ 27 := by rw [List.length_append, List.length_append, List.length_singleton, List.length_singleton]; omega
  obtain ⟨aw, sw, cw, rfl⟩ := ps8.cd.sh
  simp -implicitDefEqProofs only [g0, g3, g8, g9, e9, mfK.l3, go_sem]
  rotate_left
  have hk1 : ((k : Int) == 0) = false := by simpa using hk0
  have mfK := mf
  have psK := ps
  have okK := ok
  have hlK : l.length ≤ 27 := by omega
  simp -implicitDefEqProofs only [g0, g3, g8, g9, hk1, mfK.l3, Bool.false_eq_true, go_sem]
  all_goals
    refine CW.mono (psK.nextT 4 (by omega) _) ?_
    rintro _ H10 ⟨⟨k1, rfl, hk1'⟩, ps10, hxb, rt⟩
    obtain ⟨z, hz⟩ : ∃ z : Int, (k1 : Int) = z := ⟨_, rfl⟩
    rw [hz]
    have q0 := mfK.l3
    have q1 := (mfK.tr (psK.sm (Chg.newRow _ [.int .i64 7, .int .i64 3, .int .i64 4, .int .i64 0]))).l3
    have q2 := (mfK.tr ps10).l3
    have r0 := rt 0 _ rfl
    have r1 := rt 1 _ rfl
    have r2 := rt 2 _ rfl
    have r3 := rt 3 _ rfl
    have tailx : ∀ (k2 : Nat) (op : Int), ((k2 : Int) < 2 ∨ k2 = 0) → (op = 7 ∨ op = 3 ∨ op = 4 ∨ op = 0) → okOne (wb op) (wb (k2 : Int)) 0 := fun k2 op hk2 ho => by
      rcases ho with rfl | rfl | rfl | rfl <;> simp only [okOne, wbs] <;> (try unfold wb) <;> omega
    obtain ⟨aK, sK, cK, hvK⟩ := psK.cd.sh
    rcases (by omega : z = 0 ∨ z = 1 ∨ z = 2 ∨ z = 3) with rfl | rfl | rfl | rfl
    all_goals
      simp -implicitDefEqProofs only [r0, r1, r2, r3, g0, go_sem]
      refine CW.mono (ps10.next _ (by omega)) ?_
      rintro _ H11 ⟨⟨k2, rfl, hk2⟩, ps11, nx⟩
      have r0' := r0
      have r1' := r1
      have r2' := r2
      have r3' := r3
      rw [← loadA_congr (nx.2 _ hxb)] at r0' r1' r2' r3'
      have q3 := (mfK.tr ps11).l3
      simp -implicitDefEqProofs only [g0, g9, go_sem]
      refine CW.mono (ps11.op (by omega) _ _) ?_
      intro w12 H12 ps12
      obtain ⟨H13, e13, mf13, ps13⟩ := (mfK.tr ps12).put ps12
      have ok13 := fun (op : Int) ho => okK.app (l' := [(wb op, wb (k2 : Int))]) ⟨tailx k2 op hk2 ho, trivial⟩
      obtain ⟨aw', sw', cw', rfl⟩ := ps12.cd.sh
      try subst hvK
      cases fl with
      | false =>
        have q4 := mf13.l3
        simp -implicitDefEqProofs only [q0, q1, q2, q3, r0, r1, r2, r3, r0', r1', r2', r3', e13, g0, g3, g8, g9, q4, Bool.false_eq_true, go_sem]
        refine CW.mono (ps13.op (by rw [List.length_append, List.length_singleton]; omega) 14 0) ?_
        intro w14 H14 ps14
        obtain ⟨H15, e15, mf15, ps15⟩ := (mf13.tr ps14).put ps14
        obtain ⟨d1, H16, e16, d2, m, hm, ho, ht⟩ := mf15.fin (e := 14) ps15 (.inl rfl) (ok13 _ (by omega)) (by rw [List.length_append, List.length_singleton]; omega) hxs ha
        obtain ⟨aw2, sw2, cw2, rfl⟩ := ps14.cd.sh
        simp -implicitDefEqProofs only [g8, g9, e15, d1, e16, d2, go_sem]
        exact ⟨m, _, rfl, hm, ho, ht⟩
      | true =>
        simp -implicitDefEqProofs only [q0, q1, q2, q3, r0, r1, r2, r3, r0', r1', r2', r3', e13, g0, g3, g8, g9, go_sem]
        refine CW.mono (ps13.next _ (by omega)) ?_
        rintro _ H13b ⟨⟨k3, rfl, hk3⟩, ps13', -⟩
        have mf13 := mf13.tr ps13'
        have ps13 := ps13'.base
        have q4 := mf13.l3
        by_cases hk3' : (k3 : Int) = 0
        · have hk4 : ((k3 : Int) == 0) = true := by simpa using hk3'
          simp -implicitDefEqProofs only [hk4, g0, g3, g8, g9, q4, go_sem]
          refine CW.mono (ps13.op (by rw [List.length_append, List.length_singleton]; omega) 19 0) ?_
          intro w14 H14 ps14
          obtain ⟨H15, e15, mf15, ps15⟩ := (mf13.tr ps14).put ps14
          obtain ⟨d1, H16, e16, d2, m, hm, ho, ht⟩ := mf15.fin (e := 19) ps15 (.inr rfl) (ok13 _ (by omega)) (by rw [List.length_append, List.length_singleton]; omega) hxs ha
          obtain ⟨aw2, sw2, cw2, rfl⟩ := ps14.cd.sh
          simp -implicitDefEqProofs only [g8, g9, e15, d1, e16, d2, go_sem]
          exact ⟨m, _, rfl, hm, ho, ht⟩
        · have hk4 : ((k3 : Int) == 0) = false := by simpa using hk3'
          simp -implicitDefEqProofs only [hk4, g0, g3, g8, g9, q4, Bool.false_eq_true, go_sem]
          refine CW.mono (ps13.op (by rw [List.length_append, List.length_singleton]; omega) 14 0) ?_
          intro w14 H14 ps14
          obtain ⟨H15, e15, mf15, ps15⟩ := (mf13.tr ps14).put ps14
          obtain ⟨d1, H16, e16, d2, m, hm, ho, ht⟩ := mf15.fin (e := 14) ps15 (.inl rfl) (ok13 _ (by omega)) (by rw [List.length_append, List.length_singleton]; omega) hxs ha
          obtain ⟨aw2, sw2, cw2, rfl⟩ := ps14.cd.sh
          simp -implicitDefEqProofs only [g8, g9, e15, d1, e16, d2, go_sem]
          exact ⟨m, _, rfl, hm, ho, ht⟩
end Go.Proofs.YtojeldemfccilaaGreatDoor.AA
