/- The queue: walks. -/
import Derived.Test.YtldlolpbnfgdeaaKQueA
set_option linter.unusedSimpArgs false
set_option linter.unusedVariables false
namespace Go.Proofs.Ytldlolpbnfgdeaa.AA
open Go Go.RowKit
set_option maxRecDepth 100000
set_option maxHeartbeats 1000000
def cnt (s : QS) (p : Nat) : Nat := (s.r 0).count p + (s.r 1).count p + (s.r 2).count p + (s.r 3).count p + (s.r 4).count p + (s.r 5).count p + (s.r 6).count p + (s.r 7).count p + (s.s.map (·.1)).count p
structure Inv (s : QS) : Prop where
  lv4 : ∀ p, s.lv p < 4
  rd : ∀ l, l < 4 → ∀ p, p ∈ s.r l → s.lv p = l
  inn : ∀ p, s.inn p = true → p < 6
  cb : ∀ m, s.c m ≤ 1048576
  one : ∀ p, cnt s p = if s.inn p = true then 1 else 0
theorem count_pos {l : List Nat} {p : Nat} (h : p ∈ l) : 0 < l.count p := List.count_pos_iff.2 h
theorem Inv.memr {s : QS} (h : Inv s) {i : Nat} (hi : i < 8) {p : Nat} (hp : p ∈ s.r i) : s.inn p = true := by
  have h1 := h.one p
  have h2 := count_pos hp
  by_cases e : s.inn p = true
  · exact e
  · rw [if_neg e] at h1
    unfold cnt at h1
    have : i = 0 ∨ i = 1 ∨ i = 2 ∨ i = 3 ∨ i = 4 ∨ i = 5 ∨ i = 6 ∨ i = 7 := by omega
    rcases this with rfl | rfl | rfl | rfl | rfl | rfl | rfl | rfl <;> omega
theorem Inv.mems {s : QS} (h : Inv s) {x : Nat × Int} (hp : x ∈ s.s) : s.inn x.1 = true := by
  have h1 := h.one x.1
  have h2 := count_pos (List.mem_map_of_mem (f := (·.1)) hp)
  by_cases e : s.inn x.1 = true
  · exact e
  · rw [if_neg e] at h1
    unfold cnt at h1
    omega
theorem len_count : ∀ (l : List Nat), (∀ p, p ∈ l → p < 6) → l.length = l.count 0 + l.count 1 + l.count 2 + l.count 3 + l.count 4 + l.count 5
  | [], _ => rfl
  | a :: l, h => by
    have ih := len_count l fun p hp => h p (List.mem_cons_of_mem _ hp)
    have ha := h a (List.mem_cons_self ..)
    simp only [List.length_cons, List.count_cons, ih]
    have : a = 0 ∨ a = 1 ∨ a = 2 ∨ a = 3 ∨ a = 4 ∨ a = 5 := by omega
    rcases this with rfl | rfl | rfl | rfl | rfl | rfl <;> simp <;> omega
theorem Inv.le1 {s : QS} (h : Inv s) (p : Nat) : cnt s p ≤ 1 := by rw [h.one]; split <;> omega
theorem Inv.lenr {s : QS} (h : Inv s) {i : Nat} (hi : i < 8) : (s.r i).length ≤ 6 := by
  rw [len_count (s.r i) fun p hp => h.inn p (h.memr hi hp)]
  have h0 := h.le1 0
  have h1 := h.le1 1
  have h2 := h.le1 2
  have h3 := h.le1 3
  have h4 := h.le1 4
  have h5 := h.le1 5
  unfold cnt at h0 h1 h2 h3 h4 h5
  have : i = 0 ∨ i = 1 ∨ i = 2 ∨ i = 3 ∨ i = 4 ∨ i = 5 ∨ i = 6 ∨ i = 7 := by omega
  rcases this with rfl | rfl | rfl | rfl | rfl | rfl | rfl | rfl <;> omega
theorem Inv.lens {s : QS} (h : Inv s) : s.s.length ≤ 6 := by
  have := len_count (s.s.map (·.1)) fun p hp => by
    obtain ⟨x, hx, rfl⟩ := List.mem_map.1 hp
    exact h.inn _ (h.mems hx)
  rw [List.length_map] at this
  rw [this]
  have h0 := h.le1 0
  have h1 := h.le1 1
  have h2 := h.le1 2
  have h3 := h.le1 3
  have h4 := h.le1 4
  have h5 := h.le1 5
  unfold cnt at h0 h1 h2 h3 h4 h5
  omega
theorem top_some {s : QS} {l : Nat} (h : top s = some l) : l < 4 ∧ ∃ p t, s.r l = p :: t := by
  have key : ∀ i, s.r i ≠ [] → ∃ p t, s.r i = p :: t := fun i hi => by
    cases e : s.r i with
    | nil => exact absurd e hi
    | cons p t => exact ⟨p, t, rfl⟩
  unfold top at h
  split at h
  · obtain rfl := Option.some.inj h; exact ⟨by omega, key _ ‹_›⟩
  · split at h
    · obtain rfl := Option.some.inj h; exact ⟨by omega, key _ ‹_›⟩
    · split at h
      · obtain rfl := Option.some.inj h; exact ⟨by omega, key _ ‹_›⟩
      · split at h
        · obtain rfl := Option.some.inj h; exact ⟨by omega, key _ ‹_›⟩
        · cases h
def tk (s : QS) : QS := match top s with
  | some l => s.setr l (s.r l).tail
  | none => s
def ps (s : QS) (p : Nat) : QS := s.setr (s.lv p) (s.r (s.lv p) ++ [p])
section
variable {H : AHeap} {b n : Nat} {f : Nat → AV} {D : Nat → Prop} {g : Nat → SV} {s : QS}
theorem QC.qlP (h : QC H b 25 f D (gP s)) : QL H b 25 f D (gP s) s := ⟨h, by omega, fun i hi => gP_C hi⟩
theorem QC.qlR (h : QC H b 19 f D (gR s)) : QL H b 19 f D (gR s) s := ⟨h, by omega, fun i hi => gR_C hi⟩
theorem fst1_top {l p : Nat} {t : List Nat} (h : top s = some l) (e : s.r l = p :: t) : fst1 s = some p := by simp [fst1, h, e]
theorem c_take (h : QC H b 25 f D (gP s)) (hi : Inv s) : CW M0 74 [.ptr (some (b, 0))] H fun v H' => v = iv (optI (fst1 s)) ∧ (∃ f', QC H' b 25 f' (Ex D H H') (gP (tk s)) ∧ ∀ j, 4 ≤ j → f' j = f j) ∧ Fp H H' b D := by
  refine CW_of (fn := af74) rfl ?_
  unfold af74
  cases ht : top s with
  | none =>
    have hf : fst1 s = none := by simp [fst1, ht]
    have hk : tk s = s := by simp [tk, ht]
    obtain ⟨⟨f', q⟩, fp⟩ := Go.of h
    simp -implicitDefEqProofs only [↓WP_seq, ↓WP_skip, ↓WP_region, ↓WP_dregion, ↓WP_cond, ↓WP_block, ↓WP_exit, ↓WP_ret, ↓OW_nil, ↓OW_cons, ↓DW_nil, ↓DW_cons, ↓XW_call, XW, exA, KO_eq, KD_eq, OptK_some, EvK_some, GW2_true, GW2_false, KS_normal, KS_ret, KS_exit, KB_normal, KB_ret, KB_exit, CP2_bool, RP_ret, RP_normal, putA_some, putA_none, ev_t, ev_c, evs, evo, wantA, initA, resA, Tr.get_set, vl, chkOk, cond_true, cond_false, Nat.add_zero, Nat.mul_one, Nat.one_mul, Nat.zero_add, Nat.zero_mul, aggOf, pInt, binA, unA, intA, beq_true, beq_false, Bool.not_true, Bool.not_false, Bool.not_eq_true, and_self, and_true, true_and, ↓reduceIte, reduceIte, Nat.reduceEqDiff, Nat.succ_ne_self, Nat.reduceAdd, Nat.reduceMul, Nat.reduceSub, Nat.reduceBEq, Nat.reduceLT, Nat.reduceLeDiff, Int.cast_ofNat_Int, Int.reduceToNat, Int.reduceLT, Int.reduceLE, Int.reduceGE, Int.reduceGT, Int.reduceEq, Int.reduceNe, Int.reduceAdd, Int.reduceSub, Int.reduceNeg, decide_true, decide_false, Int.toNat_natCast, reduceCtorEq, List.nil_append, List.cons_append, AV.boxy, AV.cells, List.length_cons, List.length_nil, Nat.beq_refl, AOp.cl, ↓OW_guard, ↓DW_guard, KDW_0, KDW_1, KDW_2, OWskip_eq, DWskip_eq, fillA, setAt, DChk, DAt, stepA, ble_dec, beq_dec, Bool.and_self, Bool.and_true, Bool.true_and, Bool.and_false, Bool.false_and, List.take_succ_cons, List.take_zero, List.drop_succ_cons, List.drop_zero, List.take_nil, List.drop_nil, List.append_nil, eqAV, eqAVL, BEq.rfl, eqA, eqD, sameS, Option.map, Option.isNone, addrA, wrap64, gt_iff_lt, ge_iff_le, Int.lt_irrefl, Int.le_refl]
    refine CW.mono (c_First h.qlP) ?_
    rintro v H' ⟨rfl, rfl⟩
    rw [hf, hk]
    simp -implicitDefEqProofs only [iv, optI, ↓WP_seq, ↓WP_skip, ↓WP_region, ↓WP_dregion, ↓WP_cond, ↓WP_block, ↓WP_exit, ↓WP_ret, ↓OW_nil, ↓OW_cons, ↓DW_nil, ↓DW_cons, ↓XW_call, XW, exA, KO_eq, KD_eq, OptK_some, EvK_some, GW2_true, GW2_false, KS_normal, KS_ret, KS_exit, KB_normal, KB_ret, KB_exit, CP2_bool, RP_ret, RP_normal, putA_some, putA_none, ev_t, ev_c, evs, evo, wantA, initA, resA, Tr.get_set, vl, chkOk, cond_true, cond_false, Nat.add_zero, Nat.mul_one, Nat.one_mul, Nat.zero_add, Nat.zero_mul, aggOf, pInt, binA, unA, intA, beq_true, beq_false, Bool.not_true, Bool.not_false, Bool.not_eq_true, and_self, and_true, true_and, ↓reduceIte, reduceIte, Nat.reduceEqDiff, Nat.succ_ne_self, Nat.reduceAdd, Nat.reduceMul, Nat.reduceSub, Nat.reduceBEq, Nat.reduceLT, Nat.reduceLeDiff, Int.cast_ofNat_Int, Int.reduceToNat, Int.reduceLT, Int.reduceLE, Int.reduceGE, Int.reduceGT, Int.reduceEq, Int.reduceNe, Int.reduceAdd, Int.reduceSub, Int.reduceNeg, decide_true, decide_false, Int.toNat_natCast, reduceCtorEq, List.nil_append, List.cons_append, AV.boxy, AV.cells, List.length_cons, List.length_nil, Nat.beq_refl, AOp.cl, ↓OW_guard, ↓DW_guard, KDW_0, KDW_1, KDW_2, OWskip_eq, DWskip_eq, fillA, setAt, DChk, DAt, stepA, ble_dec, beq_dec, Bool.and_self, Bool.and_true, Bool.true_and, Bool.and_false, Bool.false_and, List.take_succ_cons, List.take_zero, List.drop_succ_cons, List.drop_zero, List.take_nil, List.drop_nil, List.append_nil, eqAV, eqAVL, BEq.rfl, eqA, eqD, sameS, Option.map, Option.isNone, addrA, wrap64, gt_iff_lt, ge_iff_le, Int.lt_irrefl, Int.le_refl]
    exact ⟨⟨f, h.mono (fun _ hx => .inl hx) (by rintro (h' | h'); exact h.nb h'; omega) (by rintro x (h' | h'); exact h.dn x h'; omega), fun _ _ => rfl⟩, fp⟩
  | some l =>
    obtain ⟨hl, p, t, e⟩ := top_some ht
    have hf := fst1_top ht e
    have hp : p ∈ s.r l := by rw [e]; exact List.mem_cons_self ..
    have hp6 := hi.inn p (hi.memr (by omega) hp)
    have hlv := hi.rd l hl p hp
    have hk : tk s = s.setr l t := by simp [tk, ht, e]
    have hlen := hi.lenr (i := l) (by omega)
    have hs := h.qlP.r (i := l) (by omega)
    rw [e] at hs hlen
    have l0 := h.load (i := 13 + p) (by omega)
    have fl : f (13 + p) = .int .i64 l := by rw [h.sc (by omega) (gP_lv hp6), hlv]; rfl
    have l1 := h.load (i := l) (by omega)
    obtain ⟨x, o, cl, fx, hr⟩ : ∃ x o cl, f l = .slice (some (x, o)) 1 (t.length + 1) cl ∧ Rd H x o (nats (p :: t)) := by
      rcases hs with ⟨-, e', -⟩ | ⟨x, o, cl, h1, -, -, h2, -⟩
      · cases e'
      · exact ⟨x, o, cl, h1, h2⟩
    have hp0 : (0 : Int) ≤ p := by omega
    have hp6' : (p : Int) < 6 := by omega
    have hl0 : (0 : Int) ≤ l := by omega
    have hl4 : (l : Int) < 4 := by omega
    have ht1 : ((1 : Int) ≤ ((t.length + 1 : Nat) : Int)) = True := by simp; omega
    simp -implicitDefEqProofs only [↓WP_seq, ↓WP_skip, ↓WP_region, ↓WP_dregion, ↓WP_cond, ↓WP_block, ↓WP_exit, ↓WP_ret, ↓OW_nil, ↓OW_cons, ↓DW_nil, ↓DW_cons, ↓XW_call, XW, exA, KO_eq, KD_eq, OptK_some, EvK_some, GW2_true, GW2_false, KS_normal, KS_ret, KS_exit, KB_normal, KB_ret, KB_exit, CP2_bool, RP_ret, RP_normal, putA_some, putA_none, ev_t, ev_c, evs, evo, wantA, initA, resA, Tr.get_set, vl, chkOk, cond_true, cond_false, Nat.add_zero, Nat.mul_one, Nat.one_mul, Nat.zero_add, Nat.zero_mul, aggOf, pInt, binA, unA, intA, beq_true, beq_false, Bool.not_true, Bool.not_false, Bool.not_eq_true, and_self, and_true, true_and, ↓reduceIte, reduceIte, Nat.reduceEqDiff, Nat.succ_ne_self, Nat.reduceAdd, Nat.reduceMul, Nat.reduceSub, Nat.reduceBEq, Nat.reduceLT, Nat.reduceLeDiff, Int.cast_ofNat_Int, Int.reduceToNat, Int.reduceLT, Int.reduceLE, Int.reduceGE, Int.reduceGT, Int.reduceEq, Int.reduceNe, Int.reduceAdd, Int.reduceSub, Int.reduceNeg, decide_true, decide_false, Int.toNat_natCast, reduceCtorEq, List.nil_append, List.cons_append, AV.boxy, AV.cells, List.length_cons, List.length_nil, Nat.beq_refl, AOp.cl, ↓OW_guard, ↓DW_guard, KDW_0, KDW_1, KDW_2, OWskip_eq, DWskip_eq, fillA, setAt, DChk, DAt, stepA, ble_dec, beq_dec, Bool.and_self, Bool.and_true, Bool.true_and, Bool.and_false, Bool.false_and, List.take_succ_cons, List.take_zero, List.drop_succ_cons, List.drop_zero, List.take_nil, List.drop_nil, List.append_nil, eqAV, eqAVL, BEq.rfl, eqA, eqD, sameS, Option.map, Option.isNone, addrA, wrap64, gt_iff_lt, ge_iff_le, Int.lt_irrefl, Int.le_refl]
    refine CW.mono (c_First h.qlP) ?_
    rintro v H' ⟨rfl, rfl⟩
    rw [hf]
    simp -implicitDefEqProofs only [iv, optI, hp0, hp6', hl0, hl4, l0, l1, fl, fx, slA, boundA, ht1, Option.isSome, Option.isNone, Nat.add_sub_cancel, ↓WP_seq, ↓WP_skip, ↓WP_region, ↓WP_dregion, ↓WP_cond, ↓WP_block, ↓WP_exit, ↓WP_ret, ↓OW_nil, ↓OW_cons, ↓DW_nil, ↓DW_cons, ↓XW_call, XW, exA, KO_eq, KD_eq, OptK_some, EvK_some, GW2_true, GW2_false, KS_normal, KS_ret, KS_exit, KB_normal, KB_ret, KB_exit, CP2_bool, RP_ret, RP_normal, putA_some, putA_none, ev_t, ev_c, evs, evo, wantA, initA, resA, Tr.get_set, vl, chkOk, cond_true, cond_false, Nat.add_zero, Nat.mul_one, Nat.one_mul, Nat.zero_add, Nat.zero_mul, aggOf, pInt, binA, unA, intA, beq_true, beq_false, Bool.not_true, Bool.not_false, Bool.not_eq_true, and_self, and_true, true_and, ↓reduceIte, reduceIte, Nat.reduceEqDiff, Nat.succ_ne_self, Nat.reduceAdd, Nat.reduceMul, Nat.reduceSub, Nat.reduceBEq, Nat.reduceLT, Nat.reduceLeDiff, Int.cast_ofNat_Int, Int.reduceToNat, Int.reduceLT, Int.reduceLE, Int.reduceGE, Int.reduceGT, Int.reduceEq, Int.reduceNe, Int.reduceAdd, Int.reduceSub, Int.reduceNeg, decide_true, decide_false, Int.toNat_natCast, reduceCtorEq, List.nil_append, List.cons_append, AV.boxy, AV.cells, List.length_cons, List.length_nil, Nat.beq_refl, AOp.cl, ↓OW_guard, ↓DW_guard, KDW_0, KDW_1, KDW_2, OWskip_eq, DWskip_eq, fillA, setAt, DChk, DAt, stepA, ble_dec, beq_dec, Bool.and_self, Bool.and_true, Bool.true_and, Bool.and_false, Bool.false_and, List.take_succ_cons, List.take_zero, List.drop_succ_cons, List.drop_zero, List.take_nil, List.drop_nil, List.append_nil, eqAV, eqAVL, BEq.rfl, eqA, eqD, sameS, Option.map, Option.isNone, addrA, wrap64, gt_iff_lt, ge_iff_le, Int.lt_irrefl, Int.le_refl]
    have hc := c_Clone (cl := cl) hr.tail (m := t.length) (by simp) (by simp at hlen; omega)
    refine CW.mono hc ?_
    rintro v H2 ⟨hch, hsl, hub⟩
    obtain ⟨H3, e1, e2, e3, e4⟩ := h.store (i := l) (by omega) hch (.inl rfl) (x := .sl 1 t.length (nats t)) (v' := v) (Sl.mono hsl fun y hy => .inr hy) (fun y hy => .inl (hub y hy))
    obtain ⟨a, s0, k, rfl⟩ := hsl.form
    have l2 := h.chg hch (by simp) (j := 13 + p) (by omega)
    have l3 := h.chg hch (by simp) (j := l) (by omega)
    simp -implicitDefEqProofs only [iv, optI, hp0, hp6', hl0, hl4, l0, l1, l2, l3, fl, fx, e1, slA, boundA, ht1, Option.isSome, Option.isNone, Nat.add_sub_cancel, ↓WP_seq, ↓WP_skip, ↓WP_region, ↓WP_dregion, ↓WP_cond, ↓WP_block, ↓WP_exit, ↓WP_ret, ↓OW_nil, ↓OW_cons, ↓DW_nil, ↓DW_cons, ↓XW_call, XW, exA, KO_eq, KD_eq, OptK_some, EvK_some, GW2_true, GW2_false, KS_normal, KS_ret, KS_exit, KB_normal, KB_ret, KB_exit, CP2_bool, RP_ret, RP_normal, putA_some, putA_none, ev_t, ev_c, evs, evo, wantA, initA, resA, Tr.get_set, vl, chkOk, cond_true, cond_false, Nat.add_zero, Nat.mul_one, Nat.one_mul, Nat.zero_add, Nat.zero_mul, aggOf, pInt, binA, unA, intA, beq_true, beq_false, Bool.not_true, Bool.not_false, Bool.not_eq_true, and_self, and_true, true_and, ↓reduceIte, reduceIte, Nat.reduceEqDiff, Nat.succ_ne_self, Nat.reduceAdd, Nat.reduceMul, Nat.reduceSub, Nat.reduceBEq, Nat.reduceLT, Nat.reduceLeDiff, Int.cast_ofNat_Int, Int.reduceToNat, Int.reduceLT, Int.reduceLE, Int.reduceGE, Int.reduceGT, Int.reduceEq, Int.reduceNe, Int.reduceAdd, Int.reduceSub, Int.reduceNeg, decide_true, decide_false, Int.toNat_natCast, reduceCtorEq, List.nil_append, List.cons_append, AV.boxy, AV.cells, List.length_cons, List.length_nil, Nat.beq_refl, AOp.cl, ↓OW_guard, ↓DW_guard, KDW_0, KDW_1, KDW_2, OWskip_eq, DWskip_eq, fillA, setAt, DChk, DAt, stepA, ble_dec, beq_dec, Bool.and_self, Bool.and_true, Bool.true_and, Bool.and_false, Bool.false_and, List.take_succ_cons, List.take_zero, List.drop_succ_cons, List.drop_zero, List.take_nil, List.drop_nil, List.append_nil, eqAV, eqAVL, BEq.rfl, eqA, eqD, sameS, Option.map, Option.isNone, addrA, wrap64, gt_iff_lt, ge_iff_le, Int.lt_irrefl, Int.le_refl]
    rw [hk]
    refine ⟨⟨_, setr_P (s := s) (i := l) (l := t) (by omega) rfl rfl ▸ e3, fun j hj => upd_ne (by omega)⟩, e4⟩
theorem c_back (h : QC H b 19 f D (gR s)) {p l : Nat} (hp : p < 6) (hin : s.inn p = true) (hlv : s.lv p = l) (hl : l < 4) (hm : (s.r l).length < 1000) :
    CW M0 90 [.ptr (some (b, 0)), iv p] H fun _ H' => Go H H' b 19 D (gR (ps s p)) := by
  refine CW_of (fn := af90) rfl ?_
  have hfl : f (13 + p) = .int .i64 (l + 1) := by rw [h.sc (by omega) gR_of, if_pos hin, hlv]; rfl
  have l0 := h.load (i := 13 + p) (by omega)
  have l1 := h.load (i := l) (by omega)
  have hg : gR s l = .sl 1 (s.r l).length (nats (s.r l)) := by rw [gR_C (by omega), gC_r (by omega)]
  obtain ⟨H2, H3, e1, e2, e3, e4, e5, e6⟩ := h.push (bytes := 8) (i := l) (by omega) hg (ys := [.int .i64 p]) rfl (by omega) (by omega)
  have l2 := e3 (13 + p) (by omega)
  have l3 := e4 (13 + p) (by omega)
  have l4 := e3 l (by omega)
  have hp0 : (0 : Int) ≤ p := by omega
  have hp6 : (p : Int) < 6 := by omega
  have hl0 : (0 : Int) ≤ l := by omega
  have hl4 : (l : Int) < 4 := by omega
  have q1 := (h.sl (i := l) (by omega) hg).refl
  have hw : IntKind.i64.wrap (l + 1 - 1) = l := by rw [wrap64 (by omega) (by omega)]; omega
  unfold af90
  simp -implicitDefEqProofs only [iv, hp0, hp6, hl0, hl4, l0, l1, l2, l3, l4, q1, hfl, e1, e2, hw, ↓WP_seq, ↓WP_skip, ↓WP_region, ↓WP_dregion, ↓WP_cond, ↓WP_block, ↓WP_exit, ↓WP_ret, ↓OW_nil, ↓OW_cons, ↓DW_nil, ↓DW_cons, ↓XW_call, XW, exA, KO_eq, KD_eq, OptK_some, EvK_some, GW2_true, GW2_false, KS_normal, KS_ret, KS_exit, KB_normal, KB_ret, KB_exit, CP2_bool, RP_ret, RP_normal, putA_some, putA_none, ev_t, ev_c, evs, evo, wantA, initA, resA, Tr.get_set, vl, chkOk, cond_true, cond_false, Nat.add_zero, Nat.mul_one, Nat.one_mul, Nat.zero_add, Nat.zero_mul, aggOf, pInt, binA, unA, intA, beq_true, beq_false, Bool.not_true, Bool.not_false, Bool.not_eq_true, and_self, and_true, true_and, ↓reduceIte, reduceIte, Nat.reduceEqDiff, Nat.succ_ne_self, Nat.reduceAdd, Nat.reduceMul, Nat.reduceSub, Nat.reduceBEq, Nat.reduceLT, Nat.reduceLeDiff, Int.cast_ofNat_Int, Int.reduceToNat, Int.reduceLT, Int.reduceLE, Int.reduceGE, Int.reduceGT, Int.reduceEq, Int.reduceNe, Int.reduceAdd, Int.reduceSub, Int.reduceNeg, decide_true, decide_false, Int.toNat_natCast, reduceCtorEq, List.nil_append, List.cons_append, AV.boxy, AV.cells, List.length_cons, List.length_nil, Nat.beq_refl, AOp.cl, ↓OW_guard, ↓DW_guard, KDW_0, KDW_1, KDW_2, OWskip_eq, DWskip_eq, fillA, setAt, DChk, DAt, stepA, ble_dec, beq_dec, Bool.and_self, Bool.and_true, Bool.true_and, Bool.and_false, Bool.false_and, List.take_succ_cons, List.take_zero, List.drop_succ_cons, List.drop_zero, List.take_nil, List.drop_nil, List.append_nil, eqAV, eqAVL, BEq.rfl, eqA, eqD, sameS, Option.map, Option.isNone, addrA, wrap64, gt_iff_lt, ge_iff_le, Int.lt_irrefl, Int.le_refl]
  have eg : upd (gR s) l (.sl 1 ((s.r l).length + 1) (nats (s.r l) ++ [.int .i64 p])) = gR (ps s p) := by
    unfold ps
    rw [hlv]
    exact setr_R (by omega) (by simp) (by simp [nats, iv])
  rw [eg] at e5
  exact ⟨⟨_, e5⟩, e6⟩
theorem c_last' (h : QC H b 25 f D (gP s)) {p l : Nat} (hp : p < 6) (hlv : s.lv p = l) (hl : l < 4) (hm : (s.r l).length < 1000) :
    CW M0 73 [.ptr (some (b, 0)), iv p] H fun _ H' => Go H H' b 25 D (gP (ps s p)) := by
  refine CW.mono (c_last h hp hl (by rw [gP_lv hp, hlv]) (by rw [gP_C (by omega), gC_r (by omega)]) hm) ?_
  rintro v H' ⟨⟨f', q⟩, fp⟩
  refine ⟨⟨f', ?_⟩, fp⟩
  unfold ps
  rw [hlv, ← setr_P (s := s) (i := l) (l := s.r l ++ [p]) (m := (s.r l).length + 1) (cs := nats (s.r l) ++ [iv p]) (by omega) (by simp) (by simp [nats])]
  exact q
theorem c_out (h : QC H b 19 f D (gR s)) (hi : Inv s) {l p : Nat} {t : List Nat} (ht : top s = some l) (e : s.r l = p :: t) : CW M0 91 [.ptr (some (b, 0))] H fun v H' => v = iv p ∧ (∃ f', QC H' b 19 f' (Ex D H H') (gR (tk s)) ∧ ∀ j, 4 ≤ j → f' j = f j) ∧ Fp H H' b D := by
  refine CW_of (fn := af91) rfl ?_
  unfold af91
  obtain ⟨hl, -⟩ := top_some ht
  have hk : tk s = s.setr l t := by simp [tk, ht, e]
  have hlen := hi.lenr (i := l) (by omega)
  have hs := h.qlR.r (i := l) (by omega)
  rw [e] at hs hlen
  have l1 := h.load (i := l) (by omega)
  obtain ⟨x, o, cl, fx, hr⟩ : ∃ x o cl, f l = .slice (some (x, o)) 1 (t.length + 1) cl ∧ Rd H x o (nats (p :: t)) := by
    rcases hs with ⟨-, e', -⟩ | ⟨x, o, cl, h1, -, -, h2, -⟩
    · cases e'
    · exact ⟨x, o, cl, h1, h2⟩
  have hl0 : (0 : Int) ≤ l := by omega
  have hl4 : (l : Int) < 4 := by omega
  have ht1 : ((1 : Int) ≤ ((t.length + 1 : Nat) : Int)) = True := by simp; omega
  have ht2 : ((0 : Int) < ((t.length + 1 : Nat) : Int)) = True := by simp
  have lh : loadA H x o 1 = some [.int .i64 p] := hr.one (j := 0) rfl
  have c1 := Chg.newRow H []
  have s1 : Sl (H.newRow []) (fun y => H.next ≤ y ∧ y < H.next + 1) 1 (.slice (some (H.next, 0)) 1 0 true) 0 [] := .inr ⟨H.next, 0, true, rfl, ⟨Nat.le_refl _, by omega⟩, rfl, Rd.newRow H [], by simp⟩
  have l2 := h.chg c1 (by simp) (j := l) (by omega)
  have en : (H.newRow []).next = H.next + 1 := rfl
  have hrt := hr.tail
  have hsrc : srcA (H.newRow []) 1 false (.slice (some (x, o + 1)) 1 t.length cl) = some (nats t, t.length) := srcA_slice (hrt.keep c1.1 (c1.keep hrt.1 (by simp))) (by simp [nats])
  have fin : ∀ v H2, appendF (H.newRow []) 1 8 false (.slice (some (H.next, 0)) 1 0 true) (.slice (some (x, o + 1)) 1 t.length cl) = some (v, H2) → Chg H H2 none → Sl H2 (fun y => H.next ≤ y ∧ y < H2.next) 1 v t.length (nats t) → (∀ y, ub v = some y → H.next ≤ y) → WP M0 af91.body (RP af91 fun v H' => v = iv p ∧ (∃ f', QC H' b 19 f' (Ex D H H') (gR (tk s)) ∧ ∀ j, 4 ≤ j → f' j = f j) ∧ Fp H H' b D) (initA 0 .nil [.ptr (some (b, 0))]) H := by
    intro v H2 ea hch hsl hub
    obtain ⟨H3, e1, e2, e3, e4⟩ := h.store (i := l) (by omega) hch (.inl rfl) (x := .sl 1 t.length (nats t)) (v' := v) (Sl.mono hsl fun y hy => .inr hy) (fun y hy => .inl (hub y hy))
    obtain ⟨a, s0, k, rfl⟩ := hsl.form
    unfold af91
    simp -implicitDefEqProofs only [↓WP_seq, ↓WP_skip, ↓WP_region, ↓WP_dregion, ↓WP_cond, ↓WP_block, ↓WP_exit, ↓WP_ret, ↓OW_nil, ↓OW_cons, ↓DW_nil, ↓DW_cons, ↓XW_call, XW, exA, KO_eq, KD_eq, OptK_some, EvK_some, GW2_true, GW2_false, KS_normal, KS_ret, KS_exit, KB_normal, KB_ret, KB_exit, CP2_bool, RP_ret, RP_normal, putA_some, putA_none, ev_t, ev_c, evs, evo, wantA, initA, resA, Tr.get_set, vl, chkOk, cond_true, cond_false, Nat.add_zero, Nat.mul_one, Nat.one_mul, Nat.zero_add, Nat.zero_mul, aggOf, pInt, binA, unA, intA, beq_true, beq_false, Bool.not_true, Bool.not_false, Bool.not_eq_true, and_self, and_true, true_and, ↓reduceIte, reduceIte, Nat.reduceEqDiff, Nat.succ_ne_self, Nat.reduceAdd, Nat.reduceMul, Nat.reduceSub, Nat.reduceBEq, Nat.reduceLT, Nat.reduceLeDiff, Int.cast_ofNat_Int, Int.reduceToNat, Int.reduceLT, Int.reduceLE, Int.reduceGE, Int.reduceGT, Int.reduceEq, Int.reduceNe, Int.reduceAdd, Int.reduceSub, Int.reduceNeg, decide_true, decide_false, Int.toNat_natCast, reduceCtorEq, List.nil_append, List.cons_append, AV.boxy, AV.cells, List.length_cons, List.length_nil, Nat.beq_refl, AOp.cl, ↓OW_guard, ↓DW_guard, KDW_0, KDW_1, KDW_2, OWskip_eq, DWskip_eq, fillA, setAt, DChk, DAt, stepA, ble_dec, beq_dec, Bool.and_self, Bool.and_true, Bool.true_and, Bool.and_false, Bool.false_and, List.take_succ_cons, List.take_zero, List.drop_succ_cons, List.drop_zero, List.take_nil, List.drop_nil, List.append_nil, eqAV, eqAVL, BEq.rfl, eqA, eqD, sameS, Option.map, Option.isNone, addrA, wrap64, gt_iff_lt, ge_iff_le, Int.lt_irrefl, Int.le_refl]
    refine CW.mono (c_top h.qlR) ?_
    rintro v H' ⟨rfl, rfl⟩
    rw [ht]
    simp -implicitDefEqProofs only [iv, optI, hl0, hl4, l1, l2, lh, fx, e1, ea, slA, boundA, ht1, ht2, Option.isSome, Option.isNone, Nat.add_sub_cancel, ↓WP_seq, ↓WP_skip, ↓WP_region, ↓WP_dregion, ↓WP_cond, ↓WP_block, ↓WP_exit, ↓WP_ret, ↓OW_nil, ↓OW_cons, ↓DW_nil, ↓DW_cons, ↓XW_call, XW, exA, KO_eq, KD_eq, OptK_some, EvK_some, GW2_true, GW2_false, KS_normal, KS_ret, KS_exit, KB_normal, KB_ret, KB_exit, CP2_bool, RP_ret, RP_normal, putA_some, putA_none, ev_t, ev_c, evs, evo, wantA, initA, resA, Tr.get_set, vl, chkOk, cond_true, cond_false, Nat.add_zero, Nat.mul_one, Nat.one_mul, Nat.zero_add, Nat.zero_mul, aggOf, pInt, binA, unA, intA, beq_true, beq_false, Bool.not_true, Bool.not_false, Bool.not_eq_true, and_self, and_true, true_and, ↓reduceIte, reduceIte, Nat.reduceEqDiff, Nat.succ_ne_self, Nat.reduceAdd, Nat.reduceMul, Nat.reduceSub, Nat.reduceBEq, Nat.reduceLT, Nat.reduceLeDiff, Int.cast_ofNat_Int, Int.reduceToNat, Int.reduceLT, Int.reduceLE, Int.reduceGE, Int.reduceGT, Int.reduceEq, Int.reduceNe, Int.reduceAdd, Int.reduceSub, Int.reduceNeg, decide_true, decide_false, Int.toNat_natCast, reduceCtorEq, List.nil_append, List.cons_append, AV.boxy, AV.cells, List.length_cons, List.length_nil, Nat.beq_refl, AOp.cl, ↓OW_guard, ↓DW_guard, KDW_0, KDW_1, KDW_2, OWskip_eq, DWskip_eq, fillA, setAt, DChk, DAt, stepA, ble_dec, beq_dec, Bool.and_self, Bool.and_true, Bool.true_and, Bool.and_false, Bool.false_and, List.take_succ_cons, List.take_zero, List.drop_succ_cons, List.drop_zero, List.take_nil, List.drop_nil, List.append_nil, eqAV, eqAVL, BEq.rfl, eqA, eqD, sameS, Option.map, Option.isNone, addrA, wrap64, gt_iff_lt, ge_iff_le, Int.lt_irrefl, Int.le_refl]
    rw [hk]
    exact ⟨⟨_, setr_R (s := s) (i := l) (l := t) (by omega) rfl rfl ▸ e3, fun j hj => upd_ne (by omega)⟩, e4⟩
  by_cases h0 : t = []
  · subst h0
    have e1 := s1.append0 (bytes := 8) hsrc
    exact fin _ _ e1 c1 s1 (by intro y hy; simp [ub] at hy)
  · have hne : t.length ≠ 0 := by simpa using h0
    obtain ⟨H2, e1, e2, e3, e4⟩ := s1.append (bytes := 8) hsrc (by simp [nats]) hne (by simp at hlen; omega) (by simp at hlen; omega)
    rw [en, Nat.zero_add] at e1
    refine fin _ _ e1 (c1.trans e3) ?_ ?_
    · rw [en, Nat.zero_add] at e4
      exact Sl.mono e4 fun y hy => by subst hy; rw [e2, en]; omega
    · intro y hy
      obtain rfl : H.next + 1 = y := Option.some.inj hy
      omega
end
end Go.Proofs.Ytldlolpbnfgdeaa.AA
namespace Go.Proofs.Ytldlolpbnfgdeaa.AA
open Go Go.RowKit
set_option maxRecDepth 100000
set_option maxHeartbeats 1000000
/-! What the queue's functions do, and what they make of it. -/
def okR (s : QS) (p l : Int) : Bool := decide (0 ≤ p ∧ p < 6) && !s.inn p.toNat && decide (0 ≤ l ∧ l < 4)
def inn1 (s : QS) (p l : Nat) : QS := { s with inn := upd s.inn p true, lv := upd s.lv p l }
def mReady (s : QS) (p l : Int) : QS := if okR s p l = true then ps (inn1 s p.toNat l.toNat) p.toNat else s
def mTurn (s : QS) : QS := match fst1 s with
  | some p => ps (tk s) p
  | none => s
def okW (s : QS) (m : Int) : Bool := decide (0 ≤ m ∧ m < 4) && (fst1 s).isSome
def mWait (s : QS) (m : Int) : QS := if okW s m = true then (if 0 < s.c m.toNat then s.setc m.toNat (s.c m.toNat - 1) else match fst1 s with
  | some p => (tk s).setr (4 + m.toNat) ((tk s).r (4 + m.toNat) ++ [p])
  | none => s) else s
def vPost (s : QS) (m : Int) : Int := if 0 ≤ m ∧ m < 4 then optI (s.r (4 + m.toNat)).head? else -1
def mPost (s : QS) (m : Int) : QS := if 0 ≤ m ∧ m < 4 then (match s.r (4 + m.toNat) with
  | [] => s.setc m.toNat (min (s.c m.toNat + 1) 1048576)
  | p :: t => ps (s.setr (4 + m.toNat) t) p) else s
def mSleep (s : QS) (u : Int) : QS := match fst1 s with
  | some p => (tk s).sets ((tk s).s ++ [(p, u)])
  | none => s
def mEnd (s : QS) : QS := match fst1 s with
  | some p => { tk s with inn := upd s.inn p false }
  | none => s
def vLevel (s : QS) (p : Int) : Int := if (0 ≤ p ∧ p < 6) ∧ s.inn p.toNat = true then s.lv p.toNat else -1
theorem fst1_some {s : QS} {p : Nat} (h : fst1 s = some p) : ∃ l t, top s = some l ∧ l < 4 ∧ s.r l = p :: t := by
  unfold fst1 at h
  split at h
  · rename_i l hl
    obtain ⟨h4, q, t, e⟩ := top_some hl
    rw [e] at h
    obtain rfl : q = p := Option.some.inj h
    exact ⟨l, t, hl, h4, e⟩
  · cases h
theorem fst1_none {s : QS} (h : fst1 s = none) : top s = none := by
  cases ht : top s with
  | none => rfl
  | some l =>
    obtain ⟨h4, q, t, e⟩ := top_some ht
    rw [fst1_top ht e] at h
    cases h
section
variable {H : AHeap} {b n : Nat} {f : Nat → AV} {D : Nat → Prop} {g : Nat → SV} {s : QS}
theorem QC.self (h : QC H b n f D g) : QC H b n f (Ex D H H) g := h.mono (fun _ hx => .inl hx) (by rintro (h' | h'); exact h.nb h'; omega) (by rintro x (h' | h'); exact h.dn x h'; omega)
theorem Fp.refl {H : AHeap} {b : Nat} {D : Nat → Prop} : Fp H H b D := ⟨Nat.le_refl _, fun _ _ _ _ => rfl⟩
theorem inn1_P {p l : Nat} (hp : p < 6) : upd (upd (gP s) (19 + p) (.sc (.bool true))) (13 + p) (.sc (iv l)) = gP (inn1 s p l) := by
  funext j
  by_cases h1 : j = 13 + p
  · subst h1
    rw [upd_same, gP_lv hp]
    simp [inn1, upd]
  · rw [upd_ne h1]
    by_cases h2 : j = 19 + p
    · subst h2
      rw [upd_same, gP_in]
      simp [inn1, upd]
    · rw [upd_ne h2]
      unfold gP
      split
      · rfl
      · split
        · rename_i h3 h4
          have : ¬ j - 13 = p := by omega
          simp [inn1, upd, this]
        · rename_i h3 h4
          have : ¬ j - 19 = p := by omega
          simp [inn1, upd, this]
theorem inn1_R {p l : Nat} : upd (gR s) (13 + p) (.sc (iv (l + 1))) = gR (inn1 s p l) := by
  funext j
  by_cases h1 : j = 13 + p
  · subst h1
    rw [upd_same, gR_of]
    simp [inn1, upd]
  · rw [upd_ne h1]
    unfold gR
    split
    · rfl
    · have : ¬ j - 13 = p := by omega
      simp [inn1, upd, this]
theorem c_Level (h : QC H b 25 f D (gP s)) (p : Int) : CW M0 33 [.ptr (some (b, 0)), iv p] H fun v H' => v = iv (vLevel s p) ∧ H' = H := by
  refine CW_of (fn := af33) rfl ?_
  unfold af33
  simp -implicitDefEqProofs only [↓WP_seq, ↓WP_skip, ↓WP_region, ↓WP_dregion, ↓WP_cond, ↓WP_block, ↓WP_exit, ↓WP_ret, ↓OW_nil, ↓OW_cons, ↓DW_nil, ↓DW_cons, ↓XW_call, XW, exA, KO_eq, KD_eq, OptK_some, EvK_some, GW2_true, GW2_false, KS_normal, KS_ret, KS_exit, KB_normal, KB_ret, KB_exit, CP2_bool, RP_ret, RP_normal, putA_some, putA_none, ev_t, ev_c, evs, evo, wantA, initA, resA, Tr.get_set, vl, chkOk, cond_true, cond_false, Nat.add_zero, Nat.mul_one, Nat.one_mul, Nat.zero_add, Nat.zero_mul, aggOf, pInt, binA, unA, intA, beq_true, beq_false, Bool.not_true, Bool.not_false, Bool.not_eq_true, and_self, and_true, true_and, ↓reduceIte, reduceIte, Nat.reduceEqDiff, Nat.succ_ne_self, Nat.reduceAdd, Nat.reduceMul, Nat.reduceSub, Nat.reduceBEq, Nat.reduceLT, Nat.reduceLeDiff, Int.cast_ofNat_Int, Int.reduceToNat, Int.reduceLT, Int.reduceLE, Int.reduceGE, Int.reduceGT, Int.reduceEq, Int.reduceNe, Int.reduceAdd, Int.reduceSub, Int.reduceNeg, decide_true, decide_false, Int.toNat_natCast, reduceCtorEq, List.nil_append, List.cons_append, AV.boxy, AV.cells, List.length_cons, List.length_nil, Nat.beq_refl, AOp.cl, ↓OW_guard, ↓DW_guard, KDW_0, KDW_1, KDW_2, OWskip_eq, DWskip_eq, fillA, setAt, DChk, DAt, stepA, ble_dec, beq_dec, Bool.and_self, Bool.and_true, Bool.true_and, Bool.and_false, Bool.false_and, List.take_succ_cons, List.take_zero, List.drop_succ_cons, List.drop_zero, List.take_nil, List.drop_nil, List.append_nil, eqAV, eqAVL, BEq.rfl, eqA, eqD, sameS, Option.map, Option.isNone, addrA, wrap64, gt_iff_lt, ge_iff_le, Int.lt_irrefl, Int.le_refl]
  refine CW.mono (c_is p H) ?_
  rintro v H' ⟨rfl, rfl⟩
  by_cases hp : 0 ≤ p ∧ p < 6
  · obtain ⟨P, rfl⟩ := Int.eq_ofNat_of_zero_le hp.1
    have l0 := h.load (i := 19 + P) (by omega)
    have l1 := h.load (i := 13 + P) (by omega)
    have f0 : f (19 + P) = .bool (s.inn P) := h.sc (by omega) gP_in
    have f1 : f (13 + P) = .int .i64 (s.lv P) := h.sc (by omega) (gP_lv (by omega))
    obtain ⟨h0, h6⟩ := hp
    cases hin : s.inn P with
    | true => simp -implicitDefEqProofs only [iv, h0, h6, l0, l1, f0, f1, hin, vLevel, ↓WP_seq, ↓WP_skip, ↓WP_region, ↓WP_dregion, ↓WP_cond, ↓WP_block, ↓WP_exit, ↓WP_ret, ↓OW_nil, ↓OW_cons, ↓DW_nil, ↓DW_cons, ↓XW_call, XW, exA, KO_eq, KD_eq, OptK_some, EvK_some, GW2_true, GW2_false, KS_normal, KS_ret, KS_exit, KB_normal, KB_ret, KB_exit, CP2_bool, RP_ret, RP_normal, putA_some, putA_none, ev_t, ev_c, evs, evo, wantA, initA, resA, Tr.get_set, vl, chkOk, cond_true, cond_false, Nat.add_zero, Nat.mul_one, Nat.one_mul, Nat.zero_add, Nat.zero_mul, aggOf, pInt, binA, unA, intA, beq_true, beq_false, Bool.not_true, Bool.not_false, Bool.not_eq_true, and_self, and_true, true_and, ↓reduceIte, reduceIte, Nat.reduceEqDiff, Nat.succ_ne_self, Nat.reduceAdd, Nat.reduceMul, Nat.reduceSub, Nat.reduceBEq, Nat.reduceLT, Nat.reduceLeDiff, Int.cast_ofNat_Int, Int.reduceToNat, Int.reduceLT, Int.reduceLE, Int.reduceGE, Int.reduceGT, Int.reduceEq, Int.reduceNe, Int.reduceAdd, Int.reduceSub, Int.reduceNeg, decide_true, decide_false, Int.toNat_natCast, reduceCtorEq, List.nil_append, List.cons_append, AV.boxy, AV.cells, List.length_cons, List.length_nil, Nat.beq_refl, AOp.cl, ↓OW_guard, ↓DW_guard, KDW_0, KDW_1, KDW_2, OWskip_eq, DWskip_eq, fillA, setAt, DChk, DAt, stepA, ble_dec, beq_dec, Bool.and_self, Bool.and_true, Bool.true_and, Bool.and_false, Bool.false_and, List.take_succ_cons, List.take_zero, List.drop_succ_cons, List.drop_zero, List.take_nil, List.drop_nil, List.append_nil, eqAV, eqAVL, BEq.rfl, eqA, eqD, sameS, Option.map, Option.isNone, addrA, wrap64, gt_iff_lt, ge_iff_le, Int.lt_irrefl, Int.le_refl]
    | false => simp -implicitDefEqProofs only [iv, h0, h6, l0, l1, f0, f1, hin, vLevel, and_false, Bool.false_eq_true, ↓WP_seq, ↓WP_skip, ↓WP_region, ↓WP_dregion, ↓WP_cond, ↓WP_block, ↓WP_exit, ↓WP_ret, ↓OW_nil, ↓OW_cons, ↓DW_nil, ↓DW_cons, ↓XW_call, XW, exA, KO_eq, KD_eq, OptK_some, EvK_some, GW2_true, GW2_false, KS_normal, KS_ret, KS_exit, KB_normal, KB_ret, KB_exit, CP2_bool, RP_ret, RP_normal, putA_some, putA_none, ev_t, ev_c, evs, evo, wantA, initA, resA, Tr.get_set, vl, chkOk, cond_true, cond_false, Nat.add_zero, Nat.mul_one, Nat.one_mul, Nat.zero_add, Nat.zero_mul, aggOf, pInt, binA, unA, intA, beq_true, beq_false, Bool.not_true, Bool.not_false, Bool.not_eq_true, and_self, and_true, true_and, ↓reduceIte, reduceIte, Nat.reduceEqDiff, Nat.succ_ne_self, Nat.reduceAdd, Nat.reduceMul, Nat.reduceSub, Nat.reduceBEq, Nat.reduceLT, Nat.reduceLeDiff, Int.cast_ofNat_Int, Int.reduceToNat, Int.reduceLT, Int.reduceLE, Int.reduceGE, Int.reduceGT, Int.reduceEq, Int.reduceNe, Int.reduceAdd, Int.reduceSub, Int.reduceNeg, decide_true, decide_false, Int.toNat_natCast, reduceCtorEq, List.nil_append, List.cons_append, AV.boxy, AV.cells, List.length_cons, List.length_nil, Nat.beq_refl, AOp.cl, ↓OW_guard, ↓DW_guard, KDW_0, KDW_1, KDW_2, OWskip_eq, DWskip_eq, fillA, setAt, DChk, DAt, stepA, ble_dec, beq_dec, Bool.and_self, Bool.and_true, Bool.true_and, Bool.and_false, Bool.false_and, List.take_succ_cons, List.take_zero, List.drop_succ_cons, List.drop_zero, List.take_nil, List.drop_nil, List.append_nil, eqAV, eqAVL, BEq.rfl, eqA, eqD, sameS, Option.map, Option.isNone, addrA, wrap64, gt_iff_lt, ge_iff_le, Int.lt_irrefl, Int.le_refl]
  · simp -implicitDefEqProofs only [iv, hp, vLevel, false_and, ↓WP_seq, ↓WP_skip, ↓WP_region, ↓WP_dregion, ↓WP_cond, ↓WP_block, ↓WP_exit, ↓WP_ret, ↓OW_nil, ↓OW_cons, ↓DW_nil, ↓DW_cons, ↓XW_call, XW, exA, KO_eq, KD_eq, OptK_some, EvK_some, GW2_true, GW2_false, KS_normal, KS_ret, KS_exit, KB_normal, KB_ret, KB_exit, CP2_bool, RP_ret, RP_normal, putA_some, putA_none, ev_t, ev_c, evs, evo, wantA, initA, resA, Tr.get_set, vl, chkOk, cond_true, cond_false, Nat.add_zero, Nat.mul_one, Nat.one_mul, Nat.zero_add, Nat.zero_mul, aggOf, pInt, binA, unA, intA, beq_true, beq_false, Bool.not_true, Bool.not_false, Bool.not_eq_true, and_self, and_true, true_and, ↓reduceIte, reduceIte, Nat.reduceEqDiff, Nat.succ_ne_self, Nat.reduceAdd, Nat.reduceMul, Nat.reduceSub, Nat.reduceBEq, Nat.reduceLT, Nat.reduceLeDiff, Int.cast_ofNat_Int, Int.reduceToNat, Int.reduceLT, Int.reduceLE, Int.reduceGE, Int.reduceGT, Int.reduceEq, Int.reduceNe, Int.reduceAdd, Int.reduceSub, Int.reduceNeg, decide_true, decide_false, Int.toNat_natCast, reduceCtorEq, List.nil_append, List.cons_append, AV.boxy, AV.cells, List.length_cons, List.length_nil, Nat.beq_refl, AOp.cl, ↓OW_guard, ↓DW_guard, KDW_0, KDW_1, KDW_2, OWskip_eq, DWskip_eq, fillA, setAt, DChk, DAt, stepA, ble_dec, beq_dec, Bool.and_self, Bool.and_true, Bool.true_and, Bool.and_false, Bool.false_and, List.take_succ_cons, List.take_zero, List.drop_succ_cons, List.drop_zero, List.take_nil, List.drop_nil, List.append_nil, eqAV, eqAVL, BEq.rfl, eqA, eqD, sameS, Option.map, Option.isNone, addrA, wrap64, gt_iff_lt, ge_iff_le, Int.lt_irrefl, Int.le_refl]
theorem c_rLevel (h : QC H b 19 f D (gR s)) (hi : Inv s) (p : Int) (h0 : -9223372036854775808 ≤ p) : CW M0 92 [.ptr (some (b, 0)), iv p] H fun v H' => v = iv (vLevel s p) ∧ H' = H := by
  refine CW_of (fn := af92) rfl ?_
  unfold af92
  by_cases hp : 0 ≤ p
  · have hn : ¬ p < 0 := by omega
    by_cases h6 : p < 6
    · have hn6 : ¬ 6 ≤ p := by omega
      obtain ⟨P, rfl⟩ := Int.eq_ofNat_of_zero_le hp
      have l1 := h.load (i := 13 + P) (by omega)
      have f1 : f (13 + P) = .int .i64 (if s.inn P = true then s.lv P + 1 else 0) := h.sc (by omega) gR_of
      cases hin : s.inn P with
      | true =>
        have h4 := hi.lv4 P
        have hw : IntKind.i64.wrap (s.lv P + 1 - 1) = s.lv P := by rw [wrap64 (by omega) (by omega)]; omega
        simp -implicitDefEqProofs only [iv, hp, hn, h6, hn6, l1, f1, hin, vLevel, hw, ↓WP_seq, ↓WP_skip, ↓WP_region, ↓WP_dregion, ↓WP_cond, ↓WP_block, ↓WP_exit, ↓WP_ret, ↓OW_nil, ↓OW_cons, ↓DW_nil, ↓DW_cons, ↓XW_call, XW, exA, KO_eq, KD_eq, OptK_some, EvK_some, GW2_true, GW2_false, KS_normal, KS_ret, KS_exit, KB_normal, KB_ret, KB_exit, CP2_bool, RP_ret, RP_normal, putA_some, putA_none, ev_t, ev_c, evs, evo, wantA, initA, resA, Tr.get_set, vl, chkOk, cond_true, cond_false, Nat.add_zero, Nat.mul_one, Nat.one_mul, Nat.zero_add, Nat.zero_mul, aggOf, pInt, binA, unA, intA, beq_true, beq_false, Bool.not_true, Bool.not_false, Bool.not_eq_true, and_self, and_true, true_and, ↓reduceIte, reduceIte, Nat.reduceEqDiff, Nat.succ_ne_self, Nat.reduceAdd, Nat.reduceMul, Nat.reduceSub, Nat.reduceBEq, Nat.reduceLT, Nat.reduceLeDiff, Int.cast_ofNat_Int, Int.reduceToNat, Int.reduceLT, Int.reduceLE, Int.reduceGE, Int.reduceGT, Int.reduceEq, Int.reduceNe, Int.reduceAdd, Int.reduceSub, Int.reduceNeg, decide_true, decide_false, Int.toNat_natCast, reduceCtorEq, List.nil_append, List.cons_append, AV.boxy, AV.cells, List.length_cons, List.length_nil, Nat.beq_refl, AOp.cl, ↓OW_guard, ↓DW_guard, KDW_0, KDW_1, KDW_2, OWskip_eq, DWskip_eq, fillA, setAt, DChk, DAt, stepA, ble_dec, beq_dec, Bool.and_self, Bool.and_true, Bool.true_and, Bool.and_false, Bool.false_and, List.take_succ_cons, List.take_zero, List.drop_succ_cons, List.drop_zero, List.take_nil, List.drop_nil, List.append_nil, eqAV, eqAVL, BEq.rfl, eqA, eqD, sameS, Option.map, Option.isNone, addrA, wrap64, gt_iff_lt, ge_iff_le, Int.lt_irrefl, Int.le_refl]
      | false => simp -implicitDefEqProofs only [iv, hp, hn, h6, hn6, l1, f1, hin, vLevel, and_false, Bool.false_eq_true, ↓WP_seq, ↓WP_skip, ↓WP_region, ↓WP_dregion, ↓WP_cond, ↓WP_block, ↓WP_exit, ↓WP_ret, ↓OW_nil, ↓OW_cons, ↓DW_nil, ↓DW_cons, ↓XW_call, XW, exA, KO_eq, KD_eq, OptK_some, EvK_some, GW2_true, GW2_false, KS_normal, KS_ret, KS_exit, KB_normal, KB_ret, KB_exit, CP2_bool, RP_ret, RP_normal, putA_some, putA_none, ev_t, ev_c, evs, evo, wantA, initA, resA, Tr.get_set, vl, chkOk, cond_true, cond_false, Nat.add_zero, Nat.mul_one, Nat.one_mul, Nat.zero_add, Nat.zero_mul, aggOf, pInt, binA, unA, intA, beq_true, beq_false, Bool.not_true, Bool.not_false, Bool.not_eq_true, and_self, and_true, true_and, ↓reduceIte, reduceIte, Nat.reduceEqDiff, Nat.succ_ne_self, Nat.reduceAdd, Nat.reduceMul, Nat.reduceSub, Nat.reduceBEq, Nat.reduceLT, Nat.reduceLeDiff, Int.cast_ofNat_Int, Int.reduceToNat, Int.reduceLT, Int.reduceLE, Int.reduceGE, Int.reduceGT, Int.reduceEq, Int.reduceNe, Int.reduceAdd, Int.reduceSub, Int.reduceNeg, decide_true, decide_false, Int.toNat_natCast, reduceCtorEq, List.nil_append, List.cons_append, AV.boxy, AV.cells, List.length_cons, List.length_nil, Nat.beq_refl, AOp.cl, ↓OW_guard, ↓DW_guard, KDW_0, KDW_1, KDW_2, OWskip_eq, DWskip_eq, fillA, setAt, DChk, DAt, stepA, ble_dec, beq_dec, Bool.and_self, Bool.and_true, Bool.true_and, Bool.and_false, Bool.false_and, List.take_succ_cons, List.take_zero, List.drop_succ_cons, List.drop_zero, List.take_nil, List.drop_nil, List.append_nil, eqAV, eqAVL, BEq.rfl, eqA, eqD, sameS, Option.map, Option.isNone, addrA, wrap64, gt_iff_lt, ge_iff_le, Int.lt_irrefl, Int.le_refl]
    · have hn6 : 6 ≤ p := by omega
      simp -implicitDefEqProofs only [iv, hp, hn, h6, hn6, vLevel, and_false, false_and, ↓WP_seq, ↓WP_skip, ↓WP_region, ↓WP_dregion, ↓WP_cond, ↓WP_block, ↓WP_exit, ↓WP_ret, ↓OW_nil, ↓OW_cons, ↓DW_nil, ↓DW_cons, ↓XW_call, XW, exA, KO_eq, KD_eq, OptK_some, EvK_some, GW2_true, GW2_false, KS_normal, KS_ret, KS_exit, KB_normal, KB_ret, KB_exit, CP2_bool, RP_ret, RP_normal, putA_some, putA_none, ev_t, ev_c, evs, evo, wantA, initA, resA, Tr.get_set, vl, chkOk, cond_true, cond_false, Nat.add_zero, Nat.mul_one, Nat.one_mul, Nat.zero_add, Nat.zero_mul, aggOf, pInt, binA, unA, intA, beq_true, beq_false, Bool.not_true, Bool.not_false, Bool.not_eq_true, and_self, and_true, true_and, ↓reduceIte, reduceIte, Nat.reduceEqDiff, Nat.succ_ne_self, Nat.reduceAdd, Nat.reduceMul, Nat.reduceSub, Nat.reduceBEq, Nat.reduceLT, Nat.reduceLeDiff, Int.cast_ofNat_Int, Int.reduceToNat, Int.reduceLT, Int.reduceLE, Int.reduceGE, Int.reduceGT, Int.reduceEq, Int.reduceNe, Int.reduceAdd, Int.reduceSub, Int.reduceNeg, decide_true, decide_false, Int.toNat_natCast, reduceCtorEq, List.nil_append, List.cons_append, AV.boxy, AV.cells, List.length_cons, List.length_nil, Nat.beq_refl, AOp.cl, ↓OW_guard, ↓DW_guard, KDW_0, KDW_1, KDW_2, OWskip_eq, DWskip_eq, fillA, setAt, DChk, DAt, stepA, ble_dec, beq_dec, Bool.and_self, Bool.and_true, Bool.true_and, Bool.and_false, Bool.false_and, List.take_succ_cons, List.take_zero, List.drop_succ_cons, List.drop_zero, List.take_nil, List.drop_nil, List.append_nil, eqAV, eqAVL, BEq.rfl, eqA, eqD, sameS, Option.map, Option.isNone, addrA, wrap64, gt_iff_lt, ge_iff_le, Int.lt_irrefl, Int.le_refl]
  · have hn : p < 0 := by omega
    simp -implicitDefEqProofs only [iv, hp, hn, vLevel, false_and, ↓WP_seq, ↓WP_skip, ↓WP_region, ↓WP_dregion, ↓WP_cond, ↓WP_block, ↓WP_exit, ↓WP_ret, ↓OW_nil, ↓OW_cons, ↓DW_nil, ↓DW_cons, ↓XW_call, XW, exA, KO_eq, KD_eq, OptK_some, EvK_some, GW2_true, GW2_false, KS_normal, KS_ret, KS_exit, KB_normal, KB_ret, KB_exit, CP2_bool, RP_ret, RP_normal, putA_some, putA_none, ev_t, ev_c, evs, evo, wantA, initA, resA, Tr.get_set, vl, chkOk, cond_true, cond_false, Nat.add_zero, Nat.mul_one, Nat.one_mul, Nat.zero_add, Nat.zero_mul, aggOf, pInt, binA, unA, intA, beq_true, beq_false, Bool.not_true, Bool.not_false, Bool.not_eq_true, and_self, and_true, true_and, ↓reduceIte, reduceIte, Nat.reduceEqDiff, Nat.succ_ne_self, Nat.reduceAdd, Nat.reduceMul, Nat.reduceSub, Nat.reduceBEq, Nat.reduceLT, Nat.reduceLeDiff, Int.cast_ofNat_Int, Int.reduceToNat, Int.reduceLT, Int.reduceLE, Int.reduceGE, Int.reduceGT, Int.reduceEq, Int.reduceNe, Int.reduceAdd, Int.reduceSub, Int.reduceNeg, decide_true, decide_false, Int.toNat_natCast, reduceCtorEq, List.nil_append, List.cons_append, AV.boxy, AV.cells, List.length_cons, List.length_nil, Nat.beq_refl, AOp.cl, ↓OW_guard, ↓DW_guard, KDW_0, KDW_1, KDW_2, OWskip_eq, DWskip_eq, fillA, setAt, DChk, DAt, stepA, ble_dec, beq_dec, Bool.and_self, Bool.and_true, Bool.true_and, Bool.and_false, Bool.false_and, List.take_succ_cons, List.take_zero, List.drop_succ_cons, List.drop_zero, List.take_nil, List.drop_nil, List.append_nil, eqAV, eqAVL, BEq.rfl, eqA, eqD, sameS, Option.map, Option.isNone, addrA, wrap64, gt_iff_lt, ge_iff_le, Int.lt_irrefl, Int.le_refl]
theorem c_rFirst (h : QC H b 19 f D (gR s)) : CW M0 93 [.ptr (some (b, 0))] H fun v H' => v = iv (optI (fst1 s)) ∧ H' = H := by
  refine CW_of (fn := af93) rfl ?_
  unfold af93
  simp -implicitDefEqProofs only [↓WP_seq, ↓WP_skip, ↓WP_region, ↓WP_dregion, ↓WP_cond, ↓WP_block, ↓WP_exit, ↓WP_ret, ↓OW_nil, ↓OW_cons, ↓DW_nil, ↓DW_cons, ↓XW_call, XW, exA, KO_eq, KD_eq, OptK_some, EvK_some, GW2_true, GW2_false, KS_normal, KS_ret, KS_exit, KB_normal, KB_ret, KB_exit, CP2_bool, RP_ret, RP_normal, putA_some, putA_none, ev_t, ev_c, evs, evo, wantA, initA, resA, Tr.get_set, vl, chkOk, cond_true, cond_false, Nat.add_zero, Nat.mul_one, Nat.one_mul, Nat.zero_add, Nat.zero_mul, aggOf, pInt, binA, unA, intA, beq_true, beq_false, Bool.not_true, Bool.not_false, Bool.not_eq_true, and_self, and_true, true_and, ↓reduceIte, reduceIte, Nat.reduceEqDiff, Nat.succ_ne_self, Nat.reduceAdd, Nat.reduceMul, Nat.reduceSub, Nat.reduceBEq, Nat.reduceLT, Nat.reduceLeDiff, Int.cast_ofNat_Int, Int.reduceToNat, Int.reduceLT, Int.reduceLE, Int.reduceGE, Int.reduceGT, Int.reduceEq, Int.reduceNe, Int.reduceAdd, Int.reduceSub, Int.reduceNeg, decide_true, decide_false, Int.toNat_natCast, reduceCtorEq, List.nil_append, List.cons_append, AV.boxy, AV.cells, List.length_cons, List.length_nil, Nat.beq_refl, AOp.cl, ↓OW_guard, ↓DW_guard, KDW_0, KDW_1, KDW_2, OWskip_eq, DWskip_eq, fillA, setAt, DChk, DAt, stepA, ble_dec, beq_dec, Bool.and_self, Bool.and_true, Bool.true_and, Bool.and_false, Bool.false_and, List.take_succ_cons, List.take_zero, List.drop_succ_cons, List.drop_zero, List.take_nil, List.drop_nil, List.append_nil, eqAV, eqAVL, BEq.rfl, eqA, eqD, sameS, Option.map, Option.isNone, addrA, wrap64, gt_iff_lt, ge_iff_le, Int.lt_irrefl, Int.le_refl]
  refine CW.mono (c_top h.qlR) ?_
  rintro v H' ⟨rfl, rfl⟩
  cases ht : top s with
  | none =>
    have hf : fst1 s = none := by simp [fst1, ht]
    rw [hf]
    simp -implicitDefEqProofs only [iv, optI, ↓WP_seq, ↓WP_skip, ↓WP_region, ↓WP_dregion, ↓WP_cond, ↓WP_block, ↓WP_exit, ↓WP_ret, ↓OW_nil, ↓OW_cons, ↓DW_nil, ↓DW_cons, ↓XW_call, XW, exA, KO_eq, KD_eq, OptK_some, EvK_some, GW2_true, GW2_false, KS_normal, KS_ret, KS_exit, KB_normal, KB_ret, KB_exit, CP2_bool, RP_ret, RP_normal, putA_some, putA_none, ev_t, ev_c, evs, evo, wantA, initA, resA, Tr.get_set, vl, chkOk, cond_true, cond_false, Nat.add_zero, Nat.mul_one, Nat.one_mul, Nat.zero_add, Nat.zero_mul, aggOf, pInt, binA, unA, intA, beq_true, beq_false, Bool.not_true, Bool.not_false, Bool.not_eq_true, and_self, and_true, true_and, ↓reduceIte, reduceIte, Nat.reduceEqDiff, Nat.succ_ne_self, Nat.reduceAdd, Nat.reduceMul, Nat.reduceSub, Nat.reduceBEq, Nat.reduceLT, Nat.reduceLeDiff, Int.cast_ofNat_Int, Int.reduceToNat, Int.reduceLT, Int.reduceLE, Int.reduceGE, Int.reduceGT, Int.reduceEq, Int.reduceNe, Int.reduceAdd, Int.reduceSub, Int.reduceNeg, decide_true, decide_false, Int.toNat_natCast, reduceCtorEq, List.nil_append, List.cons_append, AV.boxy, AV.cells, List.length_cons, List.length_nil, Nat.beq_refl, AOp.cl, ↓OW_guard, ↓DW_guard, KDW_0, KDW_1, KDW_2, OWskip_eq, DWskip_eq, fillA, setAt, DChk, DAt, stepA, ble_dec, beq_dec, Bool.and_self, Bool.and_true, Bool.true_and, Bool.and_false, Bool.false_and, List.take_succ_cons, List.take_zero, List.drop_succ_cons, List.drop_zero, List.take_nil, List.drop_nil, List.append_nil, eqAV, eqAVL, BEq.rfl, eqA, eqD, sameS, Option.map, Option.isNone, addrA, wrap64, gt_iff_lt, ge_iff_le, Int.lt_irrefl, Int.le_refl]
  | some l =>
    obtain ⟨hl, p, t, e⟩ := top_some ht
    rw [fst1_top ht e]
    obtain ⟨x, o, cl, fx, lx⟩ := h.qlR.cons (by omega) e
    have l1 := h.load (i := l) (by omega)
    have hl0 : (0 : Int) ≤ l := by omega
    have hl4 : (l : Int) < 4 := by omega
    have hn : ¬ (l : Int) < 0 := by omega
    have ht2 : ((0 : Int) < ((t.length + 1 : Nat) : Int)) = True := by simp
    simp -implicitDefEqProofs only [iv, optI, hl0, hl4, hn, l1, fx, lx, ht2, ↓WP_seq, ↓WP_skip, ↓WP_region, ↓WP_dregion, ↓WP_cond, ↓WP_block, ↓WP_exit, ↓WP_ret, ↓OW_nil, ↓OW_cons, ↓DW_nil, ↓DW_cons, ↓XW_call, XW, exA, KO_eq, KD_eq, OptK_some, EvK_some, GW2_true, GW2_false, KS_normal, KS_ret, KS_exit, KB_normal, KB_ret, KB_exit, CP2_bool, RP_ret, RP_normal, putA_some, putA_none, ev_t, ev_c, evs, evo, wantA, initA, resA, Tr.get_set, vl, chkOk, cond_true, cond_false, Nat.add_zero, Nat.mul_one, Nat.one_mul, Nat.zero_add, Nat.zero_mul, aggOf, pInt, binA, unA, intA, beq_true, beq_false, Bool.not_true, Bool.not_false, Bool.not_eq_true, and_self, and_true, true_and, ↓reduceIte, reduceIte, Nat.reduceEqDiff, Nat.succ_ne_self, Nat.reduceAdd, Nat.reduceMul, Nat.reduceSub, Nat.reduceBEq, Nat.reduceLT, Nat.reduceLeDiff, Int.cast_ofNat_Int, Int.reduceToNat, Int.reduceLT, Int.reduceLE, Int.reduceGE, Int.reduceGT, Int.reduceEq, Int.reduceNe, Int.reduceAdd, Int.reduceSub, Int.reduceNeg, decide_true, decide_false, Int.toNat_natCast, reduceCtorEq, List.nil_append, List.cons_append, AV.boxy, AV.cells, List.length_cons, List.length_nil, Nat.beq_refl, AOp.cl, ↓OW_guard, ↓DW_guard, KDW_0, KDW_1, KDW_2, OWskip_eq, DWskip_eq, fillA, setAt, DChk, DAt, stepA, ble_dec, beq_dec, Bool.and_self, Bool.and_true, Bool.true_and, Bool.and_false, Bool.false_and, List.take_succ_cons, List.take_zero, List.drop_succ_cons, List.drop_zero, List.take_nil, List.drop_nil, List.append_nil, eqAV, eqAVL, BEq.rfl, eqA, eqD, sameS, Option.map, Option.isNone, addrA, wrap64, gt_iff_lt, ge_iff_le, Int.lt_irrefl, Int.le_refl]
theorem c_Turn (h : QC H b 25 f D (gP s)) (hi : Inv s) : CW M0 36 [.ptr (some (b, 0))] H fun v H' => v = .bool (fst1 s).isSome ∧ Go H H' b 25 D (gP (mTurn s)) := by
  refine CW_of (fn := af36) rfl ?_
  unfold af36
  simp -implicitDefEqProofs only [↓WP_seq, ↓WP_skip, ↓WP_region, ↓WP_dregion, ↓WP_cond, ↓WP_block, ↓WP_exit, ↓WP_ret, ↓OW_nil, ↓OW_cons, ↓DW_nil, ↓DW_cons, ↓XW_call, XW, exA, KO_eq, KD_eq, OptK_some, EvK_some, GW2_true, GW2_false, KS_normal, KS_ret, KS_exit, KB_normal, KB_ret, KB_exit, CP2_bool, RP_ret, RP_normal, putA_some, putA_none, ev_t, ev_c, evs, evo, wantA, initA, resA, Tr.get_set, vl, chkOk, cond_true, cond_false, Nat.add_zero, Nat.mul_one, Nat.one_mul, Nat.zero_add, Nat.zero_mul, aggOf, pInt, binA, unA, intA, beq_true, beq_false, Bool.not_true, Bool.not_false, Bool.not_eq_true, and_self, and_true, true_and, ↓reduceIte, reduceIte, Nat.reduceEqDiff, Nat.succ_ne_self, Nat.reduceAdd, Nat.reduceMul, Nat.reduceSub, Nat.reduceBEq, Nat.reduceLT, Nat.reduceLeDiff, Int.cast_ofNat_Int, Int.reduceToNat, Int.reduceLT, Int.reduceLE, Int.reduceGE, Int.reduceGT, Int.reduceEq, Int.reduceNe, Int.reduceAdd, Int.reduceSub, Int.reduceNeg, decide_true, decide_false, Int.toNat_natCast, reduceCtorEq, List.nil_append, List.cons_append, AV.boxy, AV.cells, List.length_cons, List.length_nil, Nat.beq_refl, AOp.cl, ↓OW_guard, ↓DW_guard, KDW_0, KDW_1, KDW_2, OWskip_eq, DWskip_eq, fillA, setAt, DChk, DAt, stepA, ble_dec, beq_dec, Bool.and_self, Bool.and_true, Bool.true_and, Bool.and_false, Bool.false_and, List.take_succ_cons, List.take_zero, List.drop_succ_cons, List.drop_zero, List.take_nil, List.drop_nil, List.append_nil, eqAV, eqAVL, BEq.rfl, eqA, eqD, sameS, Option.map, Option.isNone, addrA, wrap64, gt_iff_lt, ge_iff_le, Int.lt_irrefl, Int.le_refl]
  refine CW.mono (c_take h hi) ?_
  rintro v H1 ⟨rfl, ⟨f1, q1, -⟩, fp1⟩
  cases hf : fst1 s with
  | none =>
    have hk : tk s = s := by simp [tk, fst1_none hf]
    rw [hk] at q1
    simp -implicitDefEqProofs only [iv, optI, mTurn, hf, Option.isSome, ↓WP_seq, ↓WP_skip, ↓WP_region, ↓WP_dregion, ↓WP_cond, ↓WP_block, ↓WP_exit, ↓WP_ret, ↓OW_nil, ↓OW_cons, ↓DW_nil, ↓DW_cons, ↓XW_call, XW, exA, KO_eq, KD_eq, OptK_some, EvK_some, GW2_true, GW2_false, KS_normal, KS_ret, KS_exit, KB_normal, KB_ret, KB_exit, CP2_bool, RP_ret, RP_normal, putA_some, putA_none, ev_t, ev_c, evs, evo, wantA, initA, resA, Tr.get_set, vl, chkOk, cond_true, cond_false, Nat.add_zero, Nat.mul_one, Nat.one_mul, Nat.zero_add, Nat.zero_mul, aggOf, pInt, binA, unA, intA, beq_true, beq_false, Bool.not_true, Bool.not_false, Bool.not_eq_true, and_self, and_true, true_and, ↓reduceIte, reduceIte, Nat.reduceEqDiff, Nat.succ_ne_self, Nat.reduceAdd, Nat.reduceMul, Nat.reduceSub, Nat.reduceBEq, Nat.reduceLT, Nat.reduceLeDiff, Int.cast_ofNat_Int, Int.reduceToNat, Int.reduceLT, Int.reduceLE, Int.reduceGE, Int.reduceGT, Int.reduceEq, Int.reduceNe, Int.reduceAdd, Int.reduceSub, Int.reduceNeg, decide_true, decide_false, Int.toNat_natCast, reduceCtorEq, List.nil_append, List.cons_append, AV.boxy, AV.cells, List.length_cons, List.length_nil, Nat.beq_refl, AOp.cl, ↓OW_guard, ↓DW_guard, KDW_0, KDW_1, KDW_2, OWskip_eq, DWskip_eq, fillA, setAt, DChk, DAt, stepA, ble_dec, beq_dec, Bool.and_self, Bool.and_true, Bool.true_and, Bool.and_false, Bool.false_and, List.take_succ_cons, List.take_zero, List.drop_succ_cons, List.drop_zero, List.take_nil, List.drop_nil, List.append_nil, eqAV, eqAVL, BEq.rfl, eqA, eqD, sameS, Option.map, Option.isNone, addrA, wrap64, gt_iff_lt, ge_iff_le, Int.lt_irrefl, Int.le_refl]
    exact ⟨⟨f1, q1⟩, fp1⟩
  | some p =>
    obtain ⟨l, t, ht, hl, e⟩ := fst1_some hf
    have hm : p ∈ s.r l := by rw [e]; exact List.mem_cons_self ..
    have hp6 := hi.inn p (hi.memr (by omega) hm)
    have hlv := hi.rd l hl p hm
    have hlen := hi.lenr (i := l) (by omega)
    have hp0 : (0 : Int) ≤ p := by omega
    have hk : tk s = s.setr l t := by simp [tk, ht, e]
    simp -implicitDefEqProofs only [iv, optI, hp0, Option.isSome, ↓WP_seq, ↓WP_skip, ↓WP_region, ↓WP_dregion, ↓WP_cond, ↓WP_block, ↓WP_exit, ↓WP_ret, ↓OW_nil, ↓OW_cons, ↓DW_nil, ↓DW_cons, ↓XW_call, XW, exA, KO_eq, KD_eq, OptK_some, EvK_some, GW2_true, GW2_false, KS_normal, KS_ret, KS_exit, KB_normal, KB_ret, KB_exit, CP2_bool, RP_ret, RP_normal, putA_some, putA_none, ev_t, ev_c, evs, evo, wantA, initA, resA, Tr.get_set, vl, chkOk, cond_true, cond_false, Nat.add_zero, Nat.mul_one, Nat.one_mul, Nat.zero_add, Nat.zero_mul, aggOf, pInt, binA, unA, intA, beq_true, beq_false, Bool.not_true, Bool.not_false, Bool.not_eq_true, and_self, and_true, true_and, ↓reduceIte, reduceIte, Nat.reduceEqDiff, Nat.succ_ne_self, Nat.reduceAdd, Nat.reduceMul, Nat.reduceSub, Nat.reduceBEq, Nat.reduceLT, Nat.reduceLeDiff, Int.cast_ofNat_Int, Int.reduceToNat, Int.reduceLT, Int.reduceLE, Int.reduceGE, Int.reduceGT, Int.reduceEq, Int.reduceNe, Int.reduceAdd, Int.reduceSub, Int.reduceNeg, decide_true, decide_false, Int.toNat_natCast, reduceCtorEq, List.nil_append, List.cons_append, AV.boxy, AV.cells, List.length_cons, List.length_nil, Nat.beq_refl, AOp.cl, ↓OW_guard, ↓DW_guard, KDW_0, KDW_1, KDW_2, OWskip_eq, DWskip_eq, fillA, setAt, DChk, DAt, stepA, ble_dec, beq_dec, Bool.and_self, Bool.and_true, Bool.true_and, Bool.and_false, Bool.false_and, List.take_succ_cons, List.take_zero, List.drop_succ_cons, List.drop_zero, List.take_nil, List.drop_nil, List.append_nil, eqAV, eqAVL, BEq.rfl, eqA, eqD, sameS, Option.map, Option.isNone, addrA, wrap64, gt_iff_lt, ge_iff_le, Int.lt_irrefl, Int.le_refl]
    refine CW.mono (c_last' q1 hp6 (l := l) (by rw [hk]; exact hlv) hl (by rw [hk]; simp [QS.setr, upd]; rw [e] at hlen; simp at hlen; omega)) ?_
    intro v H2 g2
    simp -implicitDefEqProofs only [iv, optI, hp0, mTurn, hf, ↓WP_seq, ↓WP_skip, ↓WP_region, ↓WP_dregion, ↓WP_cond, ↓WP_block, ↓WP_exit, ↓WP_ret, ↓OW_nil, ↓OW_cons, ↓DW_nil, ↓DW_cons, ↓XW_call, XW, exA, KO_eq, KD_eq, OptK_some, EvK_some, GW2_true, GW2_false, KS_normal, KS_ret, KS_exit, KB_normal, KB_ret, KB_exit, CP2_bool, RP_ret, RP_normal, putA_some, putA_none, ev_t, ev_c, evs, evo, wantA, initA, resA, Tr.get_set, vl, chkOk, cond_true, cond_false, Nat.add_zero, Nat.mul_one, Nat.one_mul, Nat.zero_add, Nat.zero_mul, aggOf, pInt, binA, unA, intA, beq_true, beq_false, Bool.not_true, Bool.not_false, Bool.not_eq_true, and_self, and_true, true_and, ↓reduceIte, reduceIte, Nat.reduceEqDiff, Nat.succ_ne_self, Nat.reduceAdd, Nat.reduceMul, Nat.reduceSub, Nat.reduceBEq, Nat.reduceLT, Nat.reduceLeDiff, Int.cast_ofNat_Int, Int.reduceToNat, Int.reduceLT, Int.reduceLE, Int.reduceGE, Int.reduceGT, Int.reduceEq, Int.reduceNe, Int.reduceAdd, Int.reduceSub, Int.reduceNeg, decide_true, decide_false, Int.toNat_natCast, reduceCtorEq, List.nil_append, List.cons_append, AV.boxy, AV.cells, List.length_cons, List.length_nil, Nat.beq_refl, AOp.cl, ↓OW_guard, ↓DW_guard, KDW_0, KDW_1, KDW_2, OWskip_eq, DWskip_eq, fillA, setAt, DChk, DAt, stepA, ble_dec, beq_dec, Bool.and_self, Bool.and_true, Bool.true_and, Bool.and_false, Bool.false_and, List.take_succ_cons, List.take_zero, List.drop_succ_cons, List.drop_zero, List.take_nil, List.drop_nil, List.append_nil, eqAV, eqAVL, BEq.rfl, eqA, eqD, sameS, Option.map, Option.isNone, addrA, wrap64, gt_iff_lt, ge_iff_le, Int.lt_irrefl, Int.le_refl]
    exact Go.trans ⟨⟨f1, q1⟩, fp1⟩ g2
theorem c_rTurn (h : QC H b 19 f D (gR s)) (hi : Inv s) : CW M0 63 [.ptr (some (b, 0))] H fun v H' => v = .bool (fst1 s).isSome ∧ Go H H' b 19 D (gR (mTurn s)) := by
  refine CW_of (fn := af63) rfl ?_
  unfold af63
  simp -implicitDefEqProofs only [↓WP_seq, ↓WP_skip, ↓WP_region, ↓WP_dregion, ↓WP_cond, ↓WP_block, ↓WP_exit, ↓WP_ret, ↓OW_nil, ↓OW_cons, ↓DW_nil, ↓DW_cons, ↓XW_call, XW, exA, KO_eq, KD_eq, OptK_some, EvK_some, GW2_true, GW2_false, KS_normal, KS_ret, KS_exit, KB_normal, KB_ret, KB_exit, CP2_bool, RP_ret, RP_normal, putA_some, putA_none, ev_t, ev_c, evs, evo, wantA, initA, resA, Tr.get_set, vl, chkOk, cond_true, cond_false, Nat.add_zero, Nat.mul_one, Nat.one_mul, Nat.zero_add, Nat.zero_mul, aggOf, pInt, binA, unA, intA, beq_true, beq_false, Bool.not_true, Bool.not_false, Bool.not_eq_true, and_self, and_true, true_and, ↓reduceIte, reduceIte, Nat.reduceEqDiff, Nat.succ_ne_self, Nat.reduceAdd, Nat.reduceMul, Nat.reduceSub, Nat.reduceBEq, Nat.reduceLT, Nat.reduceLeDiff, Int.cast_ofNat_Int, Int.reduceToNat, Int.reduceLT, Int.reduceLE, Int.reduceGE, Int.reduceGT, Int.reduceEq, Int.reduceNe, Int.reduceAdd, Int.reduceSub, Int.reduceNeg, decide_true, decide_false, Int.toNat_natCast, reduceCtorEq, List.nil_append, List.cons_append, AV.boxy, AV.cells, List.length_cons, List.length_nil, Nat.beq_refl, AOp.cl, ↓OW_guard, ↓DW_guard, KDW_0, KDW_1, KDW_2, OWskip_eq, DWskip_eq, fillA, setAt, DChk, DAt, stepA, ble_dec, beq_dec, Bool.and_self, Bool.and_true, Bool.true_and, Bool.and_false, Bool.false_and, List.take_succ_cons, List.take_zero, List.drop_succ_cons, List.drop_zero, List.take_nil, List.drop_nil, List.append_nil, eqAV, eqAVL, BEq.rfl, eqA, eqD, sameS, Option.map, Option.isNone, addrA, wrap64, gt_iff_lt, ge_iff_le, Int.lt_irrefl, Int.le_refl]
  refine CW.mono (c_top h.qlR) ?_
  rintro v H1 ⟨rfl, rfl⟩
  cases hf : fst1 s with
  | none =>
    rw [fst1_none hf]
    simp -implicitDefEqProofs only [iv, optI, mTurn, hf, Option.isSome, ↓WP_seq, ↓WP_skip, ↓WP_region, ↓WP_dregion, ↓WP_cond, ↓WP_block, ↓WP_exit, ↓WP_ret, ↓OW_nil, ↓OW_cons, ↓DW_nil, ↓DW_cons, ↓XW_call, XW, exA, KO_eq, KD_eq, OptK_some, EvK_some, GW2_true, GW2_false, KS_normal, KS_ret, KS_exit, KB_normal, KB_ret, KB_exit, CP2_bool, RP_ret, RP_normal, putA_some, putA_none, ev_t, ev_c, evs, evo, wantA, initA, resA, Tr.get_set, vl, chkOk, cond_true, cond_false, Nat.add_zero, Nat.mul_one, Nat.one_mul, Nat.zero_add, Nat.zero_mul, aggOf, pInt, binA, unA, intA, beq_true, beq_false, Bool.not_true, Bool.not_false, Bool.not_eq_true, and_self, and_true, true_and, ↓reduceIte, reduceIte, Nat.reduceEqDiff, Nat.succ_ne_self, Nat.reduceAdd, Nat.reduceMul, Nat.reduceSub, Nat.reduceBEq, Nat.reduceLT, Nat.reduceLeDiff, Int.cast_ofNat_Int, Int.reduceToNat, Int.reduceLT, Int.reduceLE, Int.reduceGE, Int.reduceGT, Int.reduceEq, Int.reduceNe, Int.reduceAdd, Int.reduceSub, Int.reduceNeg, decide_true, decide_false, Int.toNat_natCast, reduceCtorEq, List.nil_append, List.cons_append, AV.boxy, AV.cells, List.length_cons, List.length_nil, Nat.beq_refl, AOp.cl, ↓OW_guard, ↓DW_guard, KDW_0, KDW_1, KDW_2, OWskip_eq, DWskip_eq, fillA, setAt, DChk, DAt, stepA, ble_dec, beq_dec, Bool.and_self, Bool.and_true, Bool.true_and, Bool.and_false, Bool.false_and, List.take_succ_cons, List.take_zero, List.drop_succ_cons, List.drop_zero, List.take_nil, List.drop_nil, List.append_nil, eqAV, eqAVL, BEq.rfl, eqA, eqD, sameS, Option.map, Option.isNone, addrA, wrap64, gt_iff_lt, ge_iff_le, Int.lt_irrefl, Int.le_refl]
    exact Go.of h
  | some p =>
    obtain ⟨l, t, ht, hl, e⟩ := fst1_some hf
    have hm : p ∈ s.r l := by rw [e]; exact List.mem_cons_self ..
    have hin := hi.memr (by omega) hm
    have hp6 := hi.inn p hin
    have hlv := hi.rd l hl p hm
    have hlen := hi.lenr (i := l) (by omega)
    have hk : tk s = s.setr l t := by simp [tk, ht, e]
    have hn : ¬ (l : Int) < 0 := by omega
    rw [ht]
    simp -implicitDefEqProofs only [iv, optI, hn, Option.isSome, ↓WP_seq, ↓WP_skip, ↓WP_region, ↓WP_dregion, ↓WP_cond, ↓WP_block, ↓WP_exit, ↓WP_ret, ↓OW_nil, ↓OW_cons, ↓DW_nil, ↓DW_cons, ↓XW_call, XW, exA, KO_eq, KD_eq, OptK_some, EvK_some, GW2_true, GW2_false, KS_normal, KS_ret, KS_exit, KB_normal, KB_ret, KB_exit, CP2_bool, RP_ret, RP_normal, putA_some, putA_none, ev_t, ev_c, evs, evo, wantA, initA, resA, Tr.get_set, vl, chkOk, cond_true, cond_false, Nat.add_zero, Nat.mul_one, Nat.one_mul, Nat.zero_add, Nat.zero_mul, aggOf, pInt, binA, unA, intA, beq_true, beq_false, Bool.not_true, Bool.not_false, Bool.not_eq_true, and_self, and_true, true_and, ↓reduceIte, reduceIte, Nat.reduceEqDiff, Nat.succ_ne_self, Nat.reduceAdd, Nat.reduceMul, Nat.reduceSub, Nat.reduceBEq, Nat.reduceLT, Nat.reduceLeDiff, Int.cast_ofNat_Int, Int.reduceToNat, Int.reduceLT, Int.reduceLE, Int.reduceGE, Int.reduceGT, Int.reduceEq, Int.reduceNe, Int.reduceAdd, Int.reduceSub, Int.reduceNeg, decide_true, decide_false, Int.toNat_natCast, reduceCtorEq, List.nil_append, List.cons_append, AV.boxy, AV.cells, List.length_cons, List.length_nil, Nat.beq_refl, AOp.cl, ↓OW_guard, ↓DW_guard, KDW_0, KDW_1, KDW_2, OWskip_eq, DWskip_eq, fillA, setAt, DChk, DAt, stepA, ble_dec, beq_dec, Bool.and_self, Bool.and_true, Bool.true_and, Bool.and_false, Bool.false_and, List.take_succ_cons, List.take_zero, List.drop_succ_cons, List.drop_zero, List.take_nil, List.drop_nil, List.append_nil, eqAV, eqAVL, BEq.rfl, eqA, eqD, sameS, Option.map, Option.isNone, addrA, wrap64, gt_iff_lt, ge_iff_le, Int.lt_irrefl, Int.le_refl]
    refine CW.mono (c_out h hi ht e) ?_
    rintro v H2 ⟨rfl, ⟨f1, q1, -⟩, fp1⟩
    simp -implicitDefEqProofs only [iv, ↓WP_seq, ↓WP_skip, ↓WP_region, ↓WP_dregion, ↓WP_cond, ↓WP_block, ↓WP_exit, ↓WP_ret, ↓OW_nil, ↓OW_cons, ↓DW_nil, ↓DW_cons, ↓XW_call, XW, exA, KO_eq, KD_eq, OptK_some, EvK_some, GW2_true, GW2_false, KS_normal, KS_ret, KS_exit, KB_normal, KB_ret, KB_exit, CP2_bool, RP_ret, RP_normal, putA_some, putA_none, ev_t, ev_c, evs, evo, wantA, initA, resA, Tr.get_set, vl, chkOk, cond_true, cond_false, Nat.add_zero, Nat.mul_one, Nat.one_mul, Nat.zero_add, Nat.zero_mul, aggOf, pInt, binA, unA, intA, beq_true, beq_false, Bool.not_true, Bool.not_false, Bool.not_eq_true, and_self, and_true, true_and, ↓reduceIte, reduceIte, Nat.reduceEqDiff, Nat.succ_ne_self, Nat.reduceAdd, Nat.reduceMul, Nat.reduceSub, Nat.reduceBEq, Nat.reduceLT, Nat.reduceLeDiff, Int.cast_ofNat_Int, Int.reduceToNat, Int.reduceLT, Int.reduceLE, Int.reduceGE, Int.reduceGT, Int.reduceEq, Int.reduceNe, Int.reduceAdd, Int.reduceSub, Int.reduceNeg, decide_true, decide_false, Int.toNat_natCast, reduceCtorEq, List.nil_append, List.cons_append, AV.boxy, AV.cells, List.length_cons, List.length_nil, Nat.beq_refl, AOp.cl, ↓OW_guard, ↓DW_guard, KDW_0, KDW_1, KDW_2, OWskip_eq, DWskip_eq, fillA, setAt, DChk, DAt, stepA, ble_dec, beq_dec, Bool.and_self, Bool.and_true, Bool.true_and, Bool.and_false, Bool.false_and, List.take_succ_cons, List.take_zero, List.drop_succ_cons, List.drop_zero, List.take_nil, List.drop_nil, List.append_nil, eqAV, eqAVL, BEq.rfl, eqA, eqD, sameS, Option.map, Option.isNone, addrA, wrap64, gt_iff_lt, ge_iff_le, Int.lt_irrefl, Int.le_refl]
    refine CW.mono (c_back q1 hp6 (by rw [hk]; exact hin) (l := l) (by rw [hk]; exact hlv) hl (by rw [hk]; simp [QS.setr, upd]; rw [e] at hlen; simp at hlen; omega)) ?_
    intro v H3 g2
    simp -implicitDefEqProofs only [mTurn, hf, ↓WP_seq, ↓WP_skip, ↓WP_region, ↓WP_dregion, ↓WP_cond, ↓WP_block, ↓WP_exit, ↓WP_ret, ↓OW_nil, ↓OW_cons, ↓DW_nil, ↓DW_cons, ↓XW_call, XW, exA, KO_eq, KD_eq, OptK_some, EvK_some, GW2_true, GW2_false, KS_normal, KS_ret, KS_exit, KB_normal, KB_ret, KB_exit, CP2_bool, RP_ret, RP_normal, putA_some, putA_none, ev_t, ev_c, evs, evo, wantA, initA, resA, Tr.get_set, vl, chkOk, cond_true, cond_false, Nat.add_zero, Nat.mul_one, Nat.one_mul, Nat.zero_add, Nat.zero_mul, aggOf, pInt, binA, unA, intA, beq_true, beq_false, Bool.not_true, Bool.not_false, Bool.not_eq_true, and_self, and_true, true_and, ↓reduceIte, reduceIte, Nat.reduceEqDiff, Nat.succ_ne_self, Nat.reduceAdd, Nat.reduceMul, Nat.reduceSub, Nat.reduceBEq, Nat.reduceLT, Nat.reduceLeDiff, Int.cast_ofNat_Int, Int.reduceToNat, Int.reduceLT, Int.reduceLE, Int.reduceGE, Int.reduceGT, Int.reduceEq, Int.reduceNe, Int.reduceAdd, Int.reduceSub, Int.reduceNeg, decide_true, decide_false, Int.toNat_natCast, reduceCtorEq, List.nil_append, List.cons_append, AV.boxy, AV.cells, List.length_cons, List.length_nil, Nat.beq_refl, AOp.cl, ↓OW_guard, ↓DW_guard, KDW_0, KDW_1, KDW_2, OWskip_eq, DWskip_eq, fillA, setAt, DChk, DAt, stepA, ble_dec, beq_dec, Bool.and_self, Bool.and_true, Bool.true_and, Bool.and_false, Bool.false_and, List.take_succ_cons, List.take_zero, List.drop_succ_cons, List.drop_zero, List.take_nil, List.drop_nil, List.append_nil, eqAV, eqAVL, BEq.rfl, eqA, eqD, sameS, Option.map, Option.isNone, addrA, wrap64, gt_iff_lt, ge_iff_le, Int.lt_irrefl, Int.le_refl]
    exact Go.trans ⟨⟨f1, q1⟩, fp1⟩ g2
end
end Go.Proofs.Ytldlolpbnfgdeaa.AA
namespace Go.Proofs.Ytldlolpbnfgdeaa.AA
open Go Go.RowKit
set_option maxRecDepth 100000
set_option maxHeartbeats 1000000
section
variable {H : AHeap} {b n : Nat} {f : Nat → AV} {D : Nat → Prop} {g : Nat → SV} {s : QS}
theorem Go.trans3 {H1 H2 H3 : AHeap} {g1 g2 g3 : Nat → SV} (h : Go H H1 b n D g1) (h' : Go H1 H2 b n (Ex D H H1) g2) (h'' : Go H2 H3 b n (Ex (Ex D H H1) H1 H2) g3) : Go H H3 b n D g3 := h.trans (h'.trans h'')
theorem c_Ready (h : QC H b 25 f D (gP s)) (hi : Inv s) (p l : Int) : CW M0 31 [.ptr (some (b, 0)), iv p, iv l] H fun v H' => v = .bool (okR s p l) ∧ Go H H' b 25 D (gP (mReady s p l)) := by
  refine CW_of (fn := af31) rfl ?_
  unfold af31
  simp -implicitDefEqProofs only [↓WP_seq, ↓WP_skip, ↓WP_region, ↓WP_dregion, ↓WP_cond, ↓WP_block, ↓WP_exit, ↓WP_ret, ↓OW_nil, ↓OW_cons, ↓DW_nil, ↓DW_cons, ↓XW_call, XW, exA, KO_eq, KD_eq, OptK_some, EvK_some, GW2_true, GW2_false, KS_normal, KS_ret, KS_exit, KB_normal, KB_ret, KB_exit, CP2_bool, RP_ret, RP_normal, putA_some, putA_none, ev_t, ev_c, evs, evo, wantA, initA, resA, Tr.get_set, vl, chkOk, cond_true, cond_false, Nat.add_zero, Nat.mul_one, Nat.one_mul, Nat.zero_add, Nat.zero_mul, aggOf, pInt, binA, unA, intA, beq_true, beq_false, Bool.not_true, Bool.not_false, Bool.not_eq_true, and_self, and_true, true_and, ↓reduceIte, reduceIte, Nat.reduceEqDiff, Nat.succ_ne_self, Nat.reduceAdd, Nat.reduceMul, Nat.reduceSub, Nat.reduceBEq, Nat.reduceLT, Nat.reduceLeDiff, Int.cast_ofNat_Int, Int.reduceToNat, Int.reduceLT, Int.reduceLE, Int.reduceGE, Int.reduceGT, Int.reduceEq, Int.reduceNe, Int.reduceAdd, Int.reduceSub, Int.reduceNeg, decide_true, decide_false, Int.toNat_natCast, reduceCtorEq, List.nil_append, List.cons_append, AV.boxy, AV.cells, List.length_cons, List.length_nil, Nat.beq_refl, AOp.cl, ↓OW_guard, ↓DW_guard, KDW_0, KDW_1, KDW_2, OWskip_eq, DWskip_eq, fillA, setAt, DChk, DAt, stepA, ble_dec, beq_dec, Bool.and_self, Bool.and_true, Bool.true_and, Bool.and_false, Bool.false_and, List.take_succ_cons, List.take_zero, List.drop_succ_cons, List.drop_zero, List.take_nil, List.drop_nil, List.append_nil, eqAV, eqAVL, BEq.rfl, eqA, eqD, sameS, Option.map, Option.isNone, addrA, wrap64, gt_iff_lt, ge_iff_le, Int.lt_irrefl, Int.le_refl]
  refine CW.mono (c_is p H) ?_
  rintro v H' ⟨rfl, rfl⟩
  by_cases hp : 0 ≤ p ∧ p < 6
  · obtain ⟨P, rfl⟩ := Int.eq_ofNat_of_zero_le hp.1
    have hP : P < 6 := by omega
    obtain ⟨h0, h6⟩ := hp
    have l0 := h.load (i := 19 + P) (by omega)
    have f0 : f (19 + P) = .bool (s.inn P) := h.sc (by omega) gP_in
    cases hin : s.inn P with
    | true =>
      have hk : okR s (P : Int) l = false := by simp [okR, hin]
      simp -implicitDefEqProofs only [iv, h0, h6, l0, f0, hin, hk, mReady, Bool.false_eq_true, ↓WP_seq, ↓WP_skip, ↓WP_region, ↓WP_dregion, ↓WP_cond, ↓WP_block, ↓WP_exit, ↓WP_ret, ↓OW_nil, ↓OW_cons, ↓DW_nil, ↓DW_cons, ↓XW_call, XW, exA, KO_eq, KD_eq, OptK_some, EvK_some, GW2_true, GW2_false, KS_normal, KS_ret, KS_exit, KB_normal, KB_ret, KB_exit, CP2_bool, RP_ret, RP_normal, putA_some, putA_none, ev_t, ev_c, evs, evo, wantA, initA, resA, Tr.get_set, vl, chkOk, cond_true, cond_false, Nat.add_zero, Nat.mul_one, Nat.one_mul, Nat.zero_add, Nat.zero_mul, aggOf, pInt, binA, unA, intA, beq_true, beq_false, Bool.not_true, Bool.not_false, Bool.not_eq_true, and_self, and_true, true_and, ↓reduceIte, reduceIte, Nat.reduceEqDiff, Nat.succ_ne_self, Nat.reduceAdd, Nat.reduceMul, Nat.reduceSub, Nat.reduceBEq, Nat.reduceLT, Nat.reduceLeDiff, Int.cast_ofNat_Int, Int.reduceToNat, Int.reduceLT, Int.reduceLE, Int.reduceGE, Int.reduceGT, Int.reduceEq, Int.reduceNe, Int.reduceAdd, Int.reduceSub, Int.reduceNeg, decide_true, decide_false, Int.toNat_natCast, reduceCtorEq, List.nil_append, List.cons_append, AV.boxy, AV.cells, List.length_cons, List.length_nil, Nat.beq_refl, AOp.cl, ↓OW_guard, ↓DW_guard, KDW_0, KDW_1, KDW_2, OWskip_eq, DWskip_eq, fillA, setAt, DChk, DAt, stepA, ble_dec, beq_dec, Bool.and_self, Bool.and_true, Bool.true_and, Bool.and_false, Bool.false_and, List.take_succ_cons, List.take_zero, List.drop_succ_cons, List.drop_zero, List.take_nil, List.drop_nil, List.append_nil, eqAV, eqAVL, BEq.rfl, eqA, eqD, sameS, Option.map, Option.isNone, addrA, wrap64, gt_iff_lt, ge_iff_le, Int.lt_irrefl, Int.le_refl]
      exact Go.of h
    | false =>
      by_cases hl0 : 0 ≤ l
      · have hn0 : ¬ l < 0 := by omega
        by_cases hl4 : l < 4
        · have hn4 : ¬ 4 ≤ l := by omega
          obtain ⟨L, rfl⟩ := Int.eq_ofNat_of_zero_le hl0
          have hk : okR s (P : Int) (L : Int) = true := by simp [okR, hin]; omega
          have hlen := hi.lenr (i := L) (by omega)
          obtain ⟨H1, e1, e2, e3, e4⟩ := h.put (i := 19 + P) (by omega) (v := .bool true) rfl
          obtain ⟨H2, e5, e6, e7, e8⟩ := e3.put (i := 13 + P) (by omega) (v := .int .i64 L) rfl
          simp -implicitDefEqProofs only [iv, h0, h6, l0, f0, hin, hl0, hn0, hl4, hn4, e1, e5, Bool.false_eq_true, ↓WP_seq, ↓WP_skip, ↓WP_region, ↓WP_dregion, ↓WP_cond, ↓WP_block, ↓WP_exit, ↓WP_ret, ↓OW_nil, ↓OW_cons, ↓DW_nil, ↓DW_cons, ↓XW_call, XW, exA, KO_eq, KD_eq, OptK_some, EvK_some, GW2_true, GW2_false, KS_normal, KS_ret, KS_exit, KB_normal, KB_ret, KB_exit, CP2_bool, RP_ret, RP_normal, putA_some, putA_none, ev_t, ev_c, evs, evo, wantA, initA, resA, Tr.get_set, vl, chkOk, cond_true, cond_false, Nat.add_zero, Nat.mul_one, Nat.one_mul, Nat.zero_add, Nat.zero_mul, aggOf, pInt, binA, unA, intA, beq_true, beq_false, Bool.not_true, Bool.not_false, Bool.not_eq_true, and_self, and_true, true_and, ↓reduceIte, reduceIte, Nat.reduceEqDiff, Nat.succ_ne_self, Nat.reduceAdd, Nat.reduceMul, Nat.reduceSub, Nat.reduceBEq, Nat.reduceLT, Nat.reduceLeDiff, Int.cast_ofNat_Int, Int.reduceToNat, Int.reduceLT, Int.reduceLE, Int.reduceGE, Int.reduceGT, Int.reduceEq, Int.reduceNe, Int.reduceAdd, Int.reduceSub, Int.reduceNeg, decide_true, decide_false, Int.toNat_natCast, reduceCtorEq, List.nil_append, List.cons_append, AV.boxy, AV.cells, List.length_cons, List.length_nil, Nat.beq_refl, AOp.cl, ↓OW_guard, ↓DW_guard, KDW_0, KDW_1, KDW_2, OWskip_eq, DWskip_eq, fillA, setAt, DChk, DAt, stepA, ble_dec, beq_dec, Bool.and_self, Bool.and_true, Bool.true_and, Bool.and_false, Bool.false_and, List.take_succ_cons, List.take_zero, List.drop_succ_cons, List.drop_zero, List.take_nil, List.drop_nil, List.append_nil, eqAV, eqAVL, BEq.rfl, eqA, eqD, sameS, Option.map, Option.isNone, addrA, wrap64, gt_iff_lt, ge_iff_le, Int.lt_irrefl, Int.le_refl]
          have q2 : QC H2 b 25 (upd (upd f (19 + P) (.bool true)) (13 + P) (.int .i64 L)) (Ex (Ex D H' H1) H1 H2) (gP (inn1 s P L)) := inn1_P (s := s) (l := L) hP ▸ e7
          refine CW.mono (c_last' q2 (p := P) (l := L) hP (by simp [inn1, upd]) (by omega) (by show (s.r L).length < 1000; omega)) ?_
          intro v H3 g2
          simp -implicitDefEqProofs only [hk, mReady, Int.toNat_natCast, ↓WP_seq, ↓WP_skip, ↓WP_region, ↓WP_dregion, ↓WP_cond, ↓WP_block, ↓WP_exit, ↓WP_ret, ↓OW_nil, ↓OW_cons, ↓DW_nil, ↓DW_cons, ↓XW_call, XW, exA, KO_eq, KD_eq, OptK_some, EvK_some, GW2_true, GW2_false, KS_normal, KS_ret, KS_exit, KB_normal, KB_ret, KB_exit, CP2_bool, RP_ret, RP_normal, putA_some, putA_none, ev_t, ev_c, evs, evo, wantA, initA, resA, Tr.get_set, vl, chkOk, cond_true, cond_false, Nat.add_zero, Nat.mul_one, Nat.one_mul, Nat.zero_add, Nat.zero_mul, aggOf, pInt, binA, unA, intA, beq_true, beq_false, Bool.not_true, Bool.not_false, Bool.not_eq_true, and_self, and_true, true_and, ↓reduceIte, reduceIte, Nat.reduceEqDiff, Nat.succ_ne_self, Nat.reduceAdd, Nat.reduceMul, Nat.reduceSub, Nat.reduceBEq, Nat.reduceLT, Nat.reduceLeDiff, Int.cast_ofNat_Int, Int.reduceToNat, Int.reduceLT, Int.reduceLE, Int.reduceGE, Int.reduceGT, Int.reduceEq, Int.reduceNe, Int.reduceAdd, Int.reduceSub, Int.reduceNeg, decide_true, decide_false, Int.toNat_natCast, reduceCtorEq, List.nil_append, List.cons_append, AV.boxy, AV.cells, List.length_cons, List.length_nil, Nat.beq_refl, AOp.cl, ↓OW_guard, ↓DW_guard, KDW_0, KDW_1, KDW_2, OWskip_eq, DWskip_eq, fillA, setAt, DChk, DAt, stepA, ble_dec, beq_dec, Bool.and_self, Bool.and_true, Bool.true_and, Bool.and_false, Bool.false_and, List.take_succ_cons, List.take_zero, List.drop_succ_cons, List.drop_zero, List.take_nil, List.drop_nil, List.append_nil, eqAV, eqAVL, BEq.rfl, eqA, eqD, sameS, Option.map, Option.isNone, addrA, wrap64, gt_iff_lt, ge_iff_le, Int.lt_irrefl, Int.le_refl]
          exact Go.trans3 ⟨⟨_, e3⟩, e4⟩ ⟨⟨_, q2⟩, e8⟩ g2
        · have hn4 : 4 ≤ l := by omega
          have hk : okR s (P : Int) l = false := by simp [okR, hl4]
          simp -implicitDefEqProofs only [iv, h0, h6, l0, f0, hin, hl0, hn0, hl4, hn4, hk, mReady, Bool.false_eq_true, ↓WP_seq, ↓WP_skip, ↓WP_region, ↓WP_dregion, ↓WP_cond, ↓WP_block, ↓WP_exit, ↓WP_ret, ↓OW_nil, ↓OW_cons, ↓DW_nil, ↓DW_cons, ↓XW_call, XW, exA, KO_eq, KD_eq, OptK_some, EvK_some, GW2_true, GW2_false, KS_normal, KS_ret, KS_exit, KB_normal, KB_ret, KB_exit, CP2_bool, RP_ret, RP_normal, putA_some, putA_none, ev_t, ev_c, evs, evo, wantA, initA, resA, Tr.get_set, vl, chkOk, cond_true, cond_false, Nat.add_zero, Nat.mul_one, Nat.one_mul, Nat.zero_add, Nat.zero_mul, aggOf, pInt, binA, unA, intA, beq_true, beq_false, Bool.not_true, Bool.not_false, Bool.not_eq_true, and_self, and_true, true_and, ↓reduceIte, reduceIte, Nat.reduceEqDiff, Nat.succ_ne_self, Nat.reduceAdd, Nat.reduceMul, Nat.reduceSub, Nat.reduceBEq, Nat.reduceLT, Nat.reduceLeDiff, Int.cast_ofNat_Int, Int.reduceToNat, Int.reduceLT, Int.reduceLE, Int.reduceGE, Int.reduceGT, Int.reduceEq, Int.reduceNe, Int.reduceAdd, Int.reduceSub, Int.reduceNeg, decide_true, decide_false, Int.toNat_natCast, reduceCtorEq, List.nil_append, List.cons_append, AV.boxy, AV.cells, List.length_cons, List.length_nil, Nat.beq_refl, AOp.cl, ↓OW_guard, ↓DW_guard, KDW_0, KDW_1, KDW_2, OWskip_eq, DWskip_eq, fillA, setAt, DChk, DAt, stepA, ble_dec, beq_dec, Bool.and_self, Bool.and_true, Bool.true_and, Bool.and_false, Bool.false_and, List.take_succ_cons, List.take_zero, List.drop_succ_cons, List.drop_zero, List.take_nil, List.drop_nil, List.append_nil, eqAV, eqAVL, BEq.rfl, eqA, eqD, sameS, Option.map, Option.isNone, addrA, wrap64, gt_iff_lt, ge_iff_le, Int.lt_irrefl, Int.le_refl]
          exact Go.of h
      · have hn0 : l < 0 := by omega
        have hk : okR s (P : Int) l = false := by simp [okR, hl0]
        simp -implicitDefEqProofs only [iv, h0, h6, l0, f0, hin, hl0, hn0, hk, mReady, Bool.false_eq_true, ↓WP_seq, ↓WP_skip, ↓WP_region, ↓WP_dregion, ↓WP_cond, ↓WP_block, ↓WP_exit, ↓WP_ret, ↓OW_nil, ↓OW_cons, ↓DW_nil, ↓DW_cons, ↓XW_call, XW, exA, KO_eq, KD_eq, OptK_some, EvK_some, GW2_true, GW2_false, KS_normal, KS_ret, KS_exit, KB_normal, KB_ret, KB_exit, CP2_bool, RP_ret, RP_normal, putA_some, putA_none, ev_t, ev_c, evs, evo, wantA, initA, resA, Tr.get_set, vl, chkOk, cond_true, cond_false, Nat.add_zero, Nat.mul_one, Nat.one_mul, Nat.zero_add, Nat.zero_mul, aggOf, pInt, binA, unA, intA, beq_true, beq_false, Bool.not_true, Bool.not_false, Bool.not_eq_true, and_self, and_true, true_and, ↓reduceIte, reduceIte, Nat.reduceEqDiff, Nat.succ_ne_self, Nat.reduceAdd, Nat.reduceMul, Nat.reduceSub, Nat.reduceBEq, Nat.reduceLT, Nat.reduceLeDiff, Int.cast_ofNat_Int, Int.reduceToNat, Int.reduceLT, Int.reduceLE, Int.reduceGE, Int.reduceGT, Int.reduceEq, Int.reduceNe, Int.reduceAdd, Int.reduceSub, Int.reduceNeg, decide_true, decide_false, Int.toNat_natCast, reduceCtorEq, List.nil_append, List.cons_append, AV.boxy, AV.cells, List.length_cons, List.length_nil, Nat.beq_refl, AOp.cl, ↓OW_guard, ↓DW_guard, KDW_0, KDW_1, KDW_2, OWskip_eq, DWskip_eq, fillA, setAt, DChk, DAt, stepA, ble_dec, beq_dec, Bool.and_self, Bool.and_true, Bool.true_and, Bool.and_false, Bool.false_and, List.take_succ_cons, List.take_zero, List.drop_succ_cons, List.drop_zero, List.take_nil, List.drop_nil, List.append_nil, eqAV, eqAVL, BEq.rfl, eqA, eqD, sameS, Option.map, Option.isNone, addrA, wrap64, gt_iff_lt, ge_iff_le, Int.lt_irrefl, Int.le_refl]
        exact Go.of h
  · have hk : okR s p l = false := by simp [okR, hp]
    simp -implicitDefEqProofs only [iv, hp, hk, mReady, Bool.false_eq_true, ↓WP_seq, ↓WP_skip, ↓WP_region, ↓WP_dregion, ↓WP_cond, ↓WP_block, ↓WP_exit, ↓WP_ret, ↓OW_nil, ↓OW_cons, ↓DW_nil, ↓DW_cons, ↓XW_call, XW, exA, KO_eq, KD_eq, OptK_some, EvK_some, GW2_true, GW2_false, KS_normal, KS_ret, KS_exit, KB_normal, KB_ret, KB_exit, CP2_bool, RP_ret, RP_normal, putA_some, putA_none, ev_t, ev_c, evs, evo, wantA, initA, resA, Tr.get_set, vl, chkOk, cond_true, cond_false, Nat.add_zero, Nat.mul_one, Nat.one_mul, Nat.zero_add, Nat.zero_mul, aggOf, pInt, binA, unA, intA, beq_true, beq_false, Bool.not_true, Bool.not_false, Bool.not_eq_true, and_self, and_true, true_and, ↓reduceIte, reduceIte, Nat.reduceEqDiff, Nat.succ_ne_self, Nat.reduceAdd, Nat.reduceMul, Nat.reduceSub, Nat.reduceBEq, Nat.reduceLT, Nat.reduceLeDiff, Int.cast_ofNat_Int, Int.reduceToNat, Int.reduceLT, Int.reduceLE, Int.reduceGE, Int.reduceGT, Int.reduceEq, Int.reduceNe, Int.reduceAdd, Int.reduceSub, Int.reduceNeg, decide_true, decide_false, Int.toNat_natCast, reduceCtorEq, List.nil_append, List.cons_append, AV.boxy, AV.cells, List.length_cons, List.length_nil, Nat.beq_refl, AOp.cl, ↓OW_guard, ↓DW_guard, KDW_0, KDW_1, KDW_2, OWskip_eq, DWskip_eq, fillA, setAt, DChk, DAt, stepA, ble_dec, beq_dec, Bool.and_self, Bool.and_true, Bool.true_and, Bool.and_false, Bool.false_and, List.take_succ_cons, List.take_zero, List.drop_succ_cons, List.drop_zero, List.take_nil, List.drop_nil, List.append_nil, eqAV, eqAVL, BEq.rfl, eqA, eqD, sameS, Option.map, Option.isNone, addrA, wrap64, gt_iff_lt, ge_iff_le, Int.lt_irrefl, Int.le_refl]
    exact Go.of h
theorem c_rReady (h : QC H b 19 f D (gR s)) (hi : Inv s) (p l : Int) : CW M0 70 [.ptr (some (b, 0)), iv p, iv l] H fun v H' => v = .bool (okR s p l) ∧ Go H H' b 19 D (gR (mReady s p l)) := by
  refine CW_of (fn := af70) rfl ?_
  unfold af70
  by_cases hp0 : 0 ≤ p
  · have hpn : ¬ p < 0 := by omega
    by_cases hp6 : p < 6
    · have hpn6 : ¬ 6 ≤ p := by omega
      obtain ⟨P, rfl⟩ := Int.eq_ofNat_of_zero_le hp0
      have hP : P < 6 := by omega
      have l0 := h.load (i := 13 + P) (by omega)
      have f0 : f (13 + P) = .int .i64 (if s.inn P = true then s.lv P + 1 else 0) := h.sc (by omega) gR_of
      by_cases hl0 : 0 ≤ l
      · have hn0 : ¬ l < 0 := by omega
        by_cases hl4 : l < 4
        · have hn4 : ¬ 4 ≤ l := by omega
          cases hin : s.inn P with
          | true =>
            have hk : okR s (P : Int) l = false := by simp [okR, hin]
            have hq : (0 : Int) < s.lv P + 1 := by omega
            simp -implicitDefEqProofs only [iv, hp0, hpn, hp6, hpn6, l0, f0, hin, hl0, hn0, hl4, hn4, hk, hq, mReady, Bool.false_eq_true, ↓WP_seq, ↓WP_skip, ↓WP_region, ↓WP_dregion, ↓WP_cond, ↓WP_block, ↓WP_exit, ↓WP_ret, ↓OW_nil, ↓OW_cons, ↓DW_nil, ↓DW_cons, ↓XW_call, XW, exA, KO_eq, KD_eq, OptK_some, EvK_some, GW2_true, GW2_false, KS_normal, KS_ret, KS_exit, KB_normal, KB_ret, KB_exit, CP2_bool, RP_ret, RP_normal, putA_some, putA_none, ev_t, ev_c, evs, evo, wantA, initA, resA, Tr.get_set, vl, chkOk, cond_true, cond_false, Nat.add_zero, Nat.mul_one, Nat.one_mul, Nat.zero_add, Nat.zero_mul, aggOf, pInt, binA, unA, intA, beq_true, beq_false, Bool.not_true, Bool.not_false, Bool.not_eq_true, and_self, and_true, true_and, ↓reduceIte, reduceIte, Nat.reduceEqDiff, Nat.succ_ne_self, Nat.reduceAdd, Nat.reduceMul, Nat.reduceSub, Nat.reduceBEq, Nat.reduceLT, Nat.reduceLeDiff, Int.cast_ofNat_Int, Int.reduceToNat, Int.reduceLT, Int.reduceLE, Int.reduceGE, Int.reduceGT, Int.reduceEq, Int.reduceNe, Int.reduceAdd, Int.reduceSub, Int.reduceNeg, decide_true, decide_false, Int.toNat_natCast, reduceCtorEq, List.nil_append, List.cons_append, AV.boxy, AV.cells, List.length_cons, List.length_nil, Nat.beq_refl, AOp.cl, ↓OW_guard, ↓DW_guard, KDW_0, KDW_1, KDW_2, OWskip_eq, DWskip_eq, fillA, setAt, DChk, DAt, stepA, ble_dec, beq_dec, Bool.and_self, Bool.and_true, Bool.true_and, Bool.and_false, Bool.false_and, List.take_succ_cons, List.take_zero, List.drop_succ_cons, List.drop_zero, List.take_nil, List.drop_nil, List.append_nil, eqAV, eqAVL, BEq.rfl, eqA, eqD, sameS, Option.map, Option.isNone, addrA, wrap64, gt_iff_lt, ge_iff_le, Int.lt_irrefl, Int.le_refl]
            exact Go.of h
          | false =>
            obtain ⟨L, rfl⟩ := Int.eq_ofNat_of_zero_le hl0
            have hk : okR s (P : Int) (L : Int) = true := by simp [okR, hin]; omega
            have hlen := hi.lenr (i := L) (by omega)
            have hw : IntKind.i64.wrap (L + 1) = L + 1 := wrap64 (by omega) (by omega)
            obtain ⟨H1, e1, e2, e3, e4⟩ := h.put (i := 13 + P) (by omega) (v := .int .i64 (L + 1)) rfl
            have q1 : QC H1 b 19 (upd f (13 + P) (.int .i64 (L + 1))) (Ex D H H1) (gR (inn1 s P L)) := inn1_R (s := s) (l := L) ▸ e3
            have hg : gR (inn1 s P L) L = .sl 1 (s.r L).length (nats (s.r L)) := by rw [gR_C (by omega), gC_r (by omega)]; rfl
            have l1 := q1.load (i := L) (by omega)
            obtain ⟨H2, H3, g1, g2, g3, g4, g5, g6⟩ := q1.push (bytes := 8) (i := L) (by omega) hg (ys := [.int .i64 P]) rfl (by omega) (by omega)
            have l4 := g3 L (by omega)
            have qq := (q1.sl (i := L) (by omega) hg).refl
            simp -implicitDefEqProofs only [iv, hp0, hpn, hp6, hpn6, l0, f0, hin, hl0, hn0, hl4, hn4, hw, e1, l1, l4, qq, g1, g2, Bool.false_eq_true, ↓WP_seq, ↓WP_skip, ↓WP_region, ↓WP_dregion, ↓WP_cond, ↓WP_block, ↓WP_exit, ↓WP_ret, ↓OW_nil, ↓OW_cons, ↓DW_nil, ↓DW_cons, ↓XW_call, XW, exA, KO_eq, KD_eq, OptK_some, EvK_some, GW2_true, GW2_false, KS_normal, KS_ret, KS_exit, KB_normal, KB_ret, KB_exit, CP2_bool, RP_ret, RP_normal, putA_some, putA_none, ev_t, ev_c, evs, evo, wantA, initA, resA, Tr.get_set, vl, chkOk, cond_true, cond_false, Nat.add_zero, Nat.mul_one, Nat.one_mul, Nat.zero_add, Nat.zero_mul, aggOf, pInt, binA, unA, intA, beq_true, beq_false, Bool.not_true, Bool.not_false, Bool.not_eq_true, and_self, and_true, true_and, ↓reduceIte, reduceIte, Nat.reduceEqDiff, Nat.succ_ne_self, Nat.reduceAdd, Nat.reduceMul, Nat.reduceSub, Nat.reduceBEq, Nat.reduceLT, Nat.reduceLeDiff, Int.cast_ofNat_Int, Int.reduceToNat, Int.reduceLT, Int.reduceLE, Int.reduceGE, Int.reduceGT, Int.reduceEq, Int.reduceNe, Int.reduceAdd, Int.reduceSub, Int.reduceNeg, decide_true, decide_false, Int.toNat_natCast, reduceCtorEq, List.nil_append, List.cons_append, AV.boxy, AV.cells, List.length_cons, List.length_nil, Nat.beq_refl, AOp.cl, ↓OW_guard, ↓DW_guard, KDW_0, KDW_1, KDW_2, OWskip_eq, DWskip_eq, fillA, setAt, DChk, DAt, stepA, ble_dec, beq_dec, Bool.and_self, Bool.and_true, Bool.true_and, Bool.and_false, Bool.false_and, List.take_succ_cons, List.take_zero, List.drop_succ_cons, List.drop_zero, List.take_nil, List.drop_nil, List.append_nil, eqAV, eqAVL, BEq.rfl, eqA, eqD, sameS, Option.map, Option.isNone, addrA, wrap64, gt_iff_lt, ge_iff_le, Int.lt_irrefl, Int.le_refl]
            have eg : upd (gR (inn1 s P L)) L (.sl 1 ((s.r L).length + 1) (nats (s.r L) ++ [.int .i64 P])) = gR (mReady s P L) := by
              simp only [mReady, hk, if_true, Int.toNat_natCast, ps]
              have : (inn1 s P L).lv P = L := by simp [inn1, upd]
              rw [this]
              exact setr_R (by omega) (by simp [inn1]) (by simp [nats, iv, inn1])
            rw [eg] at g5
            exact ⟨by rw [hk], Go.trans ⟨⟨_, q1⟩, e4⟩ ⟨⟨_, g5⟩, g6⟩⟩
        · have hn4 : 4 ≤ l := by omega
          have hk : okR s (P : Int) l = false := by simp [okR, hl4]
          simp -implicitDefEqProofs only [iv, hp0, hpn, hp6, hpn6, hl0, hn0, hl4, hn4, hk, mReady, Bool.false_eq_true, ↓WP_seq, ↓WP_skip, ↓WP_region, ↓WP_dregion, ↓WP_cond, ↓WP_block, ↓WP_exit, ↓WP_ret, ↓OW_nil, ↓OW_cons, ↓DW_nil, ↓DW_cons, ↓XW_call, XW, exA, KO_eq, KD_eq, OptK_some, EvK_some, GW2_true, GW2_false, KS_normal, KS_ret, KS_exit, KB_normal, KB_ret, KB_exit, CP2_bool, RP_ret, RP_normal, putA_some, putA_none, ev_t, ev_c, evs, evo, wantA, initA, resA, Tr.get_set, vl, chkOk, cond_true, cond_false, Nat.add_zero, Nat.mul_one, Nat.one_mul, Nat.zero_add, Nat.zero_mul, aggOf, pInt, binA, unA, intA, beq_true, beq_false, Bool.not_true, Bool.not_false, Bool.not_eq_true, and_self, and_true, true_and, ↓reduceIte, reduceIte, Nat.reduceEqDiff, Nat.succ_ne_self, Nat.reduceAdd, Nat.reduceMul, Nat.reduceSub, Nat.reduceBEq, Nat.reduceLT, Nat.reduceLeDiff, Int.cast_ofNat_Int, Int.reduceToNat, Int.reduceLT, Int.reduceLE, Int.reduceGE, Int.reduceGT, Int.reduceEq, Int.reduceNe, Int.reduceAdd, Int.reduceSub, Int.reduceNeg, decide_true, decide_false, Int.toNat_natCast, reduceCtorEq, List.nil_append, List.cons_append, AV.boxy, AV.cells, List.length_cons, List.length_nil, Nat.beq_refl, AOp.cl, ↓OW_guard, ↓DW_guard, KDW_0, KDW_1, KDW_2, OWskip_eq, DWskip_eq, fillA, setAt, DChk, DAt, stepA, ble_dec, beq_dec, Bool.and_self, Bool.and_true, Bool.true_and, Bool.and_false, Bool.false_and, List.take_succ_cons, List.take_zero, List.drop_succ_cons, List.drop_zero, List.take_nil, List.drop_nil, List.append_nil, eqAV, eqAVL, BEq.rfl, eqA, eqD, sameS, Option.map, Option.isNone, addrA, wrap64, gt_iff_lt, ge_iff_le, Int.lt_irrefl, Int.le_refl]
          exact Go.of h
      · have hn0 : l < 0 := by omega
        have hk : okR s (P : Int) l = false := by simp [okR, hl0]
        simp -implicitDefEqProofs only [iv, hp0, hpn, hp6, hpn6, hl0, hn0, hk, mReady, Bool.false_eq_true, ↓WP_seq, ↓WP_skip, ↓WP_region, ↓WP_dregion, ↓WP_cond, ↓WP_block, ↓WP_exit, ↓WP_ret, ↓OW_nil, ↓OW_cons, ↓DW_nil, ↓DW_cons, ↓XW_call, XW, exA, KO_eq, KD_eq, OptK_some, EvK_some, GW2_true, GW2_false, KS_normal, KS_ret, KS_exit, KB_normal, KB_ret, KB_exit, CP2_bool, RP_ret, RP_normal, putA_some, putA_none, ev_t, ev_c, evs, evo, wantA, initA, resA, Tr.get_set, vl, chkOk, cond_true, cond_false, Nat.add_zero, Nat.mul_one, Nat.one_mul, Nat.zero_add, Nat.zero_mul, aggOf, pInt, binA, unA, intA, beq_true, beq_false, Bool.not_true, Bool.not_false, Bool.not_eq_true, and_self, and_true, true_and, ↓reduceIte, reduceIte, Nat.reduceEqDiff, Nat.succ_ne_self, Nat.reduceAdd, Nat.reduceMul, Nat.reduceSub, Nat.reduceBEq, Nat.reduceLT, Nat.reduceLeDiff, Int.cast_ofNat_Int, Int.reduceToNat, Int.reduceLT, Int.reduceLE, Int.reduceGE, Int.reduceGT, Int.reduceEq, Int.reduceNe, Int.reduceAdd, Int.reduceSub, Int.reduceNeg, decide_true, decide_false, Int.toNat_natCast, reduceCtorEq, List.nil_append, List.cons_append, AV.boxy, AV.cells, List.length_cons, List.length_nil, Nat.beq_refl, AOp.cl, ↓OW_guard, ↓DW_guard, KDW_0, KDW_1, KDW_2, OWskip_eq, DWskip_eq, fillA, setAt, DChk, DAt, stepA, ble_dec, beq_dec, Bool.and_self, Bool.and_true, Bool.true_and, Bool.and_false, Bool.false_and, List.take_succ_cons, List.take_zero, List.drop_succ_cons, List.drop_zero, List.take_nil, List.drop_nil, List.append_nil, eqAV, eqAVL, BEq.rfl, eqA, eqD, sameS, Option.map, Option.isNone, addrA, wrap64, gt_iff_lt, ge_iff_le, Int.lt_irrefl, Int.le_refl]
        exact Go.of h
    · have hpn6 : 6 ≤ p := by omega
      have hk : okR s p l = false := by simp [okR, hp6]
      simp -implicitDefEqProofs only [iv, hp0, hpn, hp6, hpn6, hk, mReady, Bool.false_eq_true, ↓WP_seq, ↓WP_skip, ↓WP_region, ↓WP_dregion, ↓WP_cond, ↓WP_block, ↓WP_exit, ↓WP_ret, ↓OW_nil, ↓OW_cons, ↓DW_nil, ↓DW_cons, ↓XW_call, XW, exA, KO_eq, KD_eq, OptK_some, EvK_some, GW2_true, GW2_false, KS_normal, KS_ret, KS_exit, KB_normal, KB_ret, KB_exit, CP2_bool, RP_ret, RP_normal, putA_some, putA_none, ev_t, ev_c, evs, evo, wantA, initA, resA, Tr.get_set, vl, chkOk, cond_true, cond_false, Nat.add_zero, Nat.mul_one, Nat.one_mul, Nat.zero_add, Nat.zero_mul, aggOf, pInt, binA, unA, intA, beq_true, beq_false, Bool.not_true, Bool.not_false, Bool.not_eq_true, and_self, and_true, true_and, ↓reduceIte, reduceIte, Nat.reduceEqDiff, Nat.succ_ne_self, Nat.reduceAdd, Nat.reduceMul, Nat.reduceSub, Nat.reduceBEq, Nat.reduceLT, Nat.reduceLeDiff, Int.cast_ofNat_Int, Int.reduceToNat, Int.reduceLT, Int.reduceLE, Int.reduceGE, Int.reduceGT, Int.reduceEq, Int.reduceNe, Int.reduceAdd, Int.reduceSub, Int.reduceNeg, decide_true, decide_false, Int.toNat_natCast, reduceCtorEq, List.nil_append, List.cons_append, AV.boxy, AV.cells, List.length_cons, List.length_nil, Nat.beq_refl, AOp.cl, ↓OW_guard, ↓DW_guard, KDW_0, KDW_1, KDW_2, OWskip_eq, DWskip_eq, fillA, setAt, DChk, DAt, stepA, ble_dec, beq_dec, Bool.and_self, Bool.and_true, Bool.true_and, Bool.and_false, Bool.false_and, List.take_succ_cons, List.take_zero, List.drop_succ_cons, List.drop_zero, List.take_nil, List.drop_nil, List.append_nil, eqAV, eqAVL, BEq.rfl, eqA, eqD, sameS, Option.map, Option.isNone, addrA, wrap64, gt_iff_lt, ge_iff_le, Int.lt_irrefl, Int.le_refl]
      exact Go.of h
  · have hpn : p < 0 := by omega
    have hk : okR s p l = false := by simp [okR, hp0]
    simp -implicitDefEqProofs only [iv, hp0, hpn, hk, mReady, Bool.false_eq_true, ↓WP_seq, ↓WP_skip, ↓WP_region, ↓WP_dregion, ↓WP_cond, ↓WP_block, ↓WP_exit, ↓WP_ret, ↓OW_nil, ↓OW_cons, ↓DW_nil, ↓DW_cons, ↓XW_call, XW, exA, KO_eq, KD_eq, OptK_some, EvK_some, GW2_true, GW2_false, KS_normal, KS_ret, KS_exit, KB_normal, KB_ret, KB_exit, CP2_bool, RP_ret, RP_normal, putA_some, putA_none, ev_t, ev_c, evs, evo, wantA, initA, resA, Tr.get_set, vl, chkOk, cond_true, cond_false, Nat.add_zero, Nat.mul_one, Nat.one_mul, Nat.zero_add, Nat.zero_mul, aggOf, pInt, binA, unA, intA, beq_true, beq_false, Bool.not_true, Bool.not_false, Bool.not_eq_true, and_self, and_true, true_and, ↓reduceIte, reduceIte, Nat.reduceEqDiff, Nat.succ_ne_self, Nat.reduceAdd, Nat.reduceMul, Nat.reduceSub, Nat.reduceBEq, Nat.reduceLT, Nat.reduceLeDiff, Int.cast_ofNat_Int, Int.reduceToNat, Int.reduceLT, Int.reduceLE, Int.reduceGE, Int.reduceGT, Int.reduceEq, Int.reduceNe, Int.reduceAdd, Int.reduceSub, Int.reduceNeg, decide_true, decide_false, Int.toNat_natCast, reduceCtorEq, List.nil_append, List.cons_append, AV.boxy, AV.cells, List.length_cons, List.length_nil, Nat.beq_refl, AOp.cl, ↓OW_guard, ↓DW_guard, KDW_0, KDW_1, KDW_2, OWskip_eq, DWskip_eq, fillA, setAt, DChk, DAt, stepA, ble_dec, beq_dec, Bool.and_self, Bool.and_true, Bool.true_and, Bool.and_false, Bool.false_and, List.take_succ_cons, List.take_zero, List.drop_succ_cons, List.drop_zero, List.take_nil, List.drop_nil, List.append_nil, eqAV, eqAVL, BEq.rfl, eqA, eqD, sameS, Option.map, Option.isNone, addrA, wrap64, gt_iff_lt, ge_iff_le, Int.lt_irrefl, Int.le_refl]
    exact Go.of h
end
end Go.Proofs.Ytldlolpbnfgdeaa.AA
namespace Go.Proofs.Ytldlolpbnfgdeaa.AA
open Go Go.RowKit
set_option maxRecDepth 100000
set_option maxHeartbeats 1000000
section
variable {H : AHeap} {b n : Nat} {f : Nat → AV} {D : Nat → Prop} {g : Nat → SV} {s : QS}
def off1 (s : QS) (p : Nat) : QS := { tk s with inn := upd s.inn p false }
theorem tk_inn (s : QS) : (tk s).inn = s.inn := by
  unfold tk; split <;> rfl
theorem tk_s (s : QS) : (tk s).s = s.s := by
  unfold tk; split <;> rfl
theorem tk_lv (s : QS) : (tk s).lv = s.lv := by
  unfold tk; split <;> rfl
theorem tk_hi (s : QS) {i : Nat} (h : 4 ≤ i) : (tk s).r i = s.r i := by
  unfold tk
  split
  · rename_i l hl
    have := (top_some hl).1
    simp only [QS.setr]
    rw [upd_ne (by omega)]
  · rfl
theorem off1_P {p : Nat} : upd (gP (tk s)) (19 + p) (.sc (.bool false)) = gP (off1 s p) := by
  funext j
  by_cases h2 : j = 19 + p
  · subst h2
    rw [upd_same, gP_in]
    simp [off1, upd]
  · rw [upd_ne h2]
    unfold gP
    split
    · rfl
    · split
      · rfl
      · rename_i h3 h4
        have : ¬ j - 19 = p := by omega
        simp [off1, upd, this, tk_inn]
theorem off1_R {p : Nat} : upd (gR (tk s)) (13 + p) (.sc (iv 0)) = gR (off1 s p) := by
  funext j
  by_cases h2 : j = 13 + p
  · subst h2
    rw [upd_same, gR_of]
    simp [off1, upd]
  · rw [upd_ne h2]
    unfold gR
    split
    · rfl
    · have : ¬ j - 13 = p := by omega
      simp [off1, upd, this, tk_inn, tk_lv]
theorem c_End (h : QC H b 25 f D (gP s)) (hi : Inv s) : CW M0 68 [.ptr (some (b, 0))] H fun v H' => v = iv (optI (fst1 s)) ∧ Go H H' b 25 D (gP (mEnd s)) := by
  refine CW_of (fn := af68) rfl ?_
  unfold af68
  simp -implicitDefEqProofs only [↓WP_seq, ↓WP_skip, ↓WP_region, ↓WP_dregion, ↓WP_cond, ↓WP_block, ↓WP_exit, ↓WP_ret, ↓OW_nil, ↓OW_cons, ↓DW_nil, ↓DW_cons, ↓XW_call, XW, exA, KO_eq, KD_eq, OptK_some, EvK_some, GW2_true, GW2_false, KS_normal, KS_ret, KS_exit, KB_normal, KB_ret, KB_exit, CP2_bool, RP_ret, RP_normal, putA_some, putA_none, ev_t, ev_c, evs, evo, wantA, initA, resA, Tr.get_set, vl, chkOk, cond_true, cond_false, Nat.add_zero, Nat.mul_one, Nat.one_mul, Nat.zero_add, Nat.zero_mul, aggOf, pInt, binA, unA, intA, beq_true, beq_false, Bool.not_true, Bool.not_false, Bool.not_eq_true, and_self, and_true, true_and, ↓reduceIte, reduceIte, Nat.reduceEqDiff, Nat.succ_ne_self, Nat.reduceAdd, Nat.reduceMul, Nat.reduceSub, Nat.reduceBEq, Nat.reduceLT, Nat.reduceLeDiff, Int.cast_ofNat_Int, Int.reduceToNat, Int.reduceLT, Int.reduceLE, Int.reduceGE, Int.reduceGT, Int.reduceEq, Int.reduceNe, Int.reduceAdd, Int.reduceSub, Int.reduceNeg, decide_true, decide_false, Int.toNat_natCast, reduceCtorEq, List.nil_append, List.cons_append, AV.boxy, AV.cells, List.length_cons, List.length_nil, Nat.beq_refl, AOp.cl, ↓OW_guard, ↓DW_guard, KDW_0, KDW_1, KDW_2, OWskip_eq, DWskip_eq, fillA, setAt, DChk, DAt, stepA, ble_dec, beq_dec, Bool.and_self, Bool.and_true, Bool.true_and, Bool.and_false, Bool.false_and, List.take_succ_cons, List.take_zero, List.drop_succ_cons, List.drop_zero, List.take_nil, List.drop_nil, List.append_nil, eqAV, eqAVL, BEq.rfl, eqA, eqD, sameS, Option.map, Option.isNone, addrA, wrap64, gt_iff_lt, ge_iff_le, Int.lt_irrefl, Int.le_refl]
  refine CW.mono (c_take h hi) ?_
  rintro v H1 ⟨rfl, ⟨f1, q1, -⟩, fp1⟩
  cases hf : fst1 s with
  | none =>
    have hk : tk s = s := by simp [tk, fst1_none hf]
    rw [hk] at q1
    simp -implicitDefEqProofs only [iv, optI, mEnd, hf, Option.isSome, ↓WP_seq, ↓WP_skip, ↓WP_region, ↓WP_dregion, ↓WP_cond, ↓WP_block, ↓WP_exit, ↓WP_ret, ↓OW_nil, ↓OW_cons, ↓DW_nil, ↓DW_cons, ↓XW_call, XW, exA, KO_eq, KD_eq, OptK_some, EvK_some, GW2_true, GW2_false, KS_normal, KS_ret, KS_exit, KB_normal, KB_ret, KB_exit, CP2_bool, RP_ret, RP_normal, putA_some, putA_none, ev_t, ev_c, evs, evo, wantA, initA, resA, Tr.get_set, vl, chkOk, cond_true, cond_false, Nat.add_zero, Nat.mul_one, Nat.one_mul, Nat.zero_add, Nat.zero_mul, aggOf, pInt, binA, unA, intA, beq_true, beq_false, Bool.not_true, Bool.not_false, Bool.not_eq_true, and_self, and_true, true_and, ↓reduceIte, reduceIte, Nat.reduceEqDiff, Nat.succ_ne_self, Nat.reduceAdd, Nat.reduceMul, Nat.reduceSub, Nat.reduceBEq, Nat.reduceLT, Nat.reduceLeDiff, Int.cast_ofNat_Int, Int.reduceToNat, Int.reduceLT, Int.reduceLE, Int.reduceGE, Int.reduceGT, Int.reduceEq, Int.reduceNe, Int.reduceAdd, Int.reduceSub, Int.reduceNeg, decide_true, decide_false, Int.toNat_natCast, reduceCtorEq, List.nil_append, List.cons_append, AV.boxy, AV.cells, List.length_cons, List.length_nil, Nat.beq_refl, AOp.cl, ↓OW_guard, ↓DW_guard, KDW_0, KDW_1, KDW_2, OWskip_eq, DWskip_eq, fillA, setAt, DChk, DAt, stepA, ble_dec, beq_dec, Bool.and_self, Bool.and_true, Bool.true_and, Bool.and_false, Bool.false_and, List.take_succ_cons, List.take_zero, List.drop_succ_cons, List.drop_zero, List.take_nil, List.drop_nil, List.append_nil, eqAV, eqAVL, BEq.rfl, eqA, eqD, sameS, Option.map, Option.isNone, addrA, wrap64, gt_iff_lt, ge_iff_le, Int.lt_irrefl, Int.le_refl]
    exact ⟨⟨f1, q1⟩, fp1⟩
  | some p =>
    obtain ⟨l, t, ht, hl, e⟩ := fst1_some hf
    have hm : p ∈ s.r l := by rw [e]; exact List.mem_cons_self ..
    have hp6 := hi.inn p (hi.memr (by omega) hm)
    have hp0 : (0 : Int) ≤ p := by omega
    have hp6' : (p : Int) < 6 := by omega
    obtain ⟨H2, e1, e2, e3, e4⟩ := q1.put (i := 19 + p) (by omega) (v := .bool false) rfl
    rw [off1_P] at e3
    simp -implicitDefEqProofs only [iv, optI, hp0, hp6', e1, mEnd, hf, ↓WP_seq, ↓WP_skip, ↓WP_region, ↓WP_dregion, ↓WP_cond, ↓WP_block, ↓WP_exit, ↓WP_ret, ↓OW_nil, ↓OW_cons, ↓DW_nil, ↓DW_cons, ↓XW_call, XW, exA, KO_eq, KD_eq, OptK_some, EvK_some, GW2_true, GW2_false, KS_normal, KS_ret, KS_exit, KB_normal, KB_ret, KB_exit, CP2_bool, RP_ret, RP_normal, putA_some, putA_none, ev_t, ev_c, evs, evo, wantA, initA, resA, Tr.get_set, vl, chkOk, cond_true, cond_false, Nat.add_zero, Nat.mul_one, Nat.one_mul, Nat.zero_add, Nat.zero_mul, aggOf, pInt, binA, unA, intA, beq_true, beq_false, Bool.not_true, Bool.not_false, Bool.not_eq_true, and_self, and_true, true_and, ↓reduceIte, reduceIte, Nat.reduceEqDiff, Nat.succ_ne_self, Nat.reduceAdd, Nat.reduceMul, Nat.reduceSub, Nat.reduceBEq, Nat.reduceLT, Nat.reduceLeDiff, Int.cast_ofNat_Int, Int.reduceToNat, Int.reduceLT, Int.reduceLE, Int.reduceGE, Int.reduceGT, Int.reduceEq, Int.reduceNe, Int.reduceAdd, Int.reduceSub, Int.reduceNeg, decide_true, decide_false, Int.toNat_natCast, reduceCtorEq, List.nil_append, List.cons_append, AV.boxy, AV.cells, List.length_cons, List.length_nil, Nat.beq_refl, AOp.cl, ↓OW_guard, ↓DW_guard, KDW_0, KDW_1, KDW_2, OWskip_eq, DWskip_eq, fillA, setAt, DChk, DAt, stepA, ble_dec, beq_dec, Bool.and_self, Bool.and_true, Bool.true_and, Bool.and_false, Bool.false_and, List.take_succ_cons, List.take_zero, List.drop_succ_cons, List.drop_zero, List.take_nil, List.drop_nil, List.append_nil, eqAV, eqAVL, BEq.rfl, eqA, eqD, sameS, Option.map, Option.isNone, addrA, wrap64, gt_iff_lt, ge_iff_le, Int.lt_irrefl, Int.le_refl]
    exact Go.trans ⟨⟨f1, q1⟩, fp1⟩ ⟨⟨_, e3⟩, e4⟩
theorem c_rEnd (h : QC H b 19 f D (gR s)) (hi : Inv s) : CW M0 69 [.ptr (some (b, 0))] H fun v H' => v = iv (optI (fst1 s)) ∧ Go H H' b 19 D (gR (mEnd s)) := by
  refine CW_of (fn := af69) rfl ?_
  unfold af69
  simp -implicitDefEqProofs only [↓WP_seq, ↓WP_skip, ↓WP_region, ↓WP_dregion, ↓WP_cond, ↓WP_block, ↓WP_exit, ↓WP_ret, ↓OW_nil, ↓OW_cons, ↓DW_nil, ↓DW_cons, ↓XW_call, XW, exA, KO_eq, KD_eq, OptK_some, EvK_some, GW2_true, GW2_false, KS_normal, KS_ret, KS_exit, KB_normal, KB_ret, KB_exit, CP2_bool, RP_ret, RP_normal, putA_some, putA_none, ev_t, ev_c, evs, evo, wantA, initA, resA, Tr.get_set, vl, chkOk, cond_true, cond_false, Nat.add_zero, Nat.mul_one, Nat.one_mul, Nat.zero_add, Nat.zero_mul, aggOf, pInt, binA, unA, intA, beq_true, beq_false, Bool.not_true, Bool.not_false, Bool.not_eq_true, and_self, and_true, true_and, ↓reduceIte, reduceIte, Nat.reduceEqDiff, Nat.succ_ne_self, Nat.reduceAdd, Nat.reduceMul, Nat.reduceSub, Nat.reduceBEq, Nat.reduceLT, Nat.reduceLeDiff, Int.cast_ofNat_Int, Int.reduceToNat, Int.reduceLT, Int.reduceLE, Int.reduceGE, Int.reduceGT, Int.reduceEq, Int.reduceNe, Int.reduceAdd, Int.reduceSub, Int.reduceNeg, decide_true, decide_false, Int.toNat_natCast, reduceCtorEq, List.nil_append, List.cons_append, AV.boxy, AV.cells, List.length_cons, List.length_nil, Nat.beq_refl, AOp.cl, ↓OW_guard, ↓DW_guard, KDW_0, KDW_1, KDW_2, OWskip_eq, DWskip_eq, fillA, setAt, DChk, DAt, stepA, ble_dec, beq_dec, Bool.and_self, Bool.and_true, Bool.true_and, Bool.and_false, Bool.false_and, List.take_succ_cons, List.take_zero, List.drop_succ_cons, List.drop_zero, List.take_nil, List.drop_nil, List.append_nil, eqAV, eqAVL, BEq.rfl, eqA, eqD, sameS, Option.map, Option.isNone, addrA, wrap64, gt_iff_lt, ge_iff_le, Int.lt_irrefl, Int.le_refl]
  refine CW.mono (c_top h.qlR) ?_
  rintro v H1 ⟨rfl, rfl⟩
  cases hf : fst1 s with
  | none =>
    rw [fst1_none hf]
    simp -implicitDefEqProofs only [iv, optI, mEnd, hf, Option.isSome, ↓WP_seq, ↓WP_skip, ↓WP_region, ↓WP_dregion, ↓WP_cond, ↓WP_block, ↓WP_exit, ↓WP_ret, ↓OW_nil, ↓OW_cons, ↓DW_nil, ↓DW_cons, ↓XW_call, XW, exA, KO_eq, KD_eq, OptK_some, EvK_some, GW2_true, GW2_false, KS_normal, KS_ret, KS_exit, KB_normal, KB_ret, KB_exit, CP2_bool, RP_ret, RP_normal, putA_some, putA_none, ev_t, ev_c, evs, evo, wantA, initA, resA, Tr.get_set, vl, chkOk, cond_true, cond_false, Nat.add_zero, Nat.mul_one, Nat.one_mul, Nat.zero_add, Nat.zero_mul, aggOf, pInt, binA, unA, intA, beq_true, beq_false, Bool.not_true, Bool.not_false, Bool.not_eq_true, and_self, and_true, true_and, ↓reduceIte, reduceIte, Nat.reduceEqDiff, Nat.succ_ne_self, Nat.reduceAdd, Nat.reduceMul, Nat.reduceSub, Nat.reduceBEq, Nat.reduceLT, Nat.reduceLeDiff, Int.cast_ofNat_Int, Int.reduceToNat, Int.reduceLT, Int.reduceLE, Int.reduceGE, Int.reduceGT, Int.reduceEq, Int.reduceNe, Int.reduceAdd, Int.reduceSub, Int.reduceNeg, decide_true, decide_false, Int.toNat_natCast, reduceCtorEq, List.nil_append, List.cons_append, AV.boxy, AV.cells, List.length_cons, List.length_nil, Nat.beq_refl, AOp.cl, ↓OW_guard, ↓DW_guard, KDW_0, KDW_1, KDW_2, OWskip_eq, DWskip_eq, fillA, setAt, DChk, DAt, stepA, ble_dec, beq_dec, Bool.and_self, Bool.and_true, Bool.true_and, Bool.and_false, Bool.false_and, List.take_succ_cons, List.take_zero, List.drop_succ_cons, List.drop_zero, List.take_nil, List.drop_nil, List.append_nil, eqAV, eqAVL, BEq.rfl, eqA, eqD, sameS, Option.map, Option.isNone, addrA, wrap64, gt_iff_lt, ge_iff_le, Int.lt_irrefl, Int.le_refl]
    exact Go.of h
  | some p =>
    obtain ⟨l, t, ht, hl, e⟩ := fst1_some hf
    have hm : p ∈ s.r l := by rw [e]; exact List.mem_cons_self ..
    have hp6 := hi.inn p (hi.memr (by omega) hm)
    have hp0 : (0 : Int) ≤ p := by omega
    have hp6' : (p : Int) < 6 := by omega
    have hn : ¬ (l : Int) < 0 := by omega
    rw [ht]
    simp -implicitDefEqProofs only [iv, optI, hn, Option.isSome, ↓WP_seq, ↓WP_skip, ↓WP_region, ↓WP_dregion, ↓WP_cond, ↓WP_block, ↓WP_exit, ↓WP_ret, ↓OW_nil, ↓OW_cons, ↓DW_nil, ↓DW_cons, ↓XW_call, XW, exA, KO_eq, KD_eq, OptK_some, EvK_some, GW2_true, GW2_false, KS_normal, KS_ret, KS_exit, KB_normal, KB_ret, KB_exit, CP2_bool, RP_ret, RP_normal, putA_some, putA_none, ev_t, ev_c, evs, evo, wantA, initA, resA, Tr.get_set, vl, chkOk, cond_true, cond_false, Nat.add_zero, Nat.mul_one, Nat.one_mul, Nat.zero_add, Nat.zero_mul, aggOf, pInt, binA, unA, intA, beq_true, beq_false, Bool.not_true, Bool.not_false, Bool.not_eq_true, and_self, and_true, true_and, ↓reduceIte, reduceIte, Nat.reduceEqDiff, Nat.succ_ne_self, Nat.reduceAdd, Nat.reduceMul, Nat.reduceSub, Nat.reduceBEq, Nat.reduceLT, Nat.reduceLeDiff, Int.cast_ofNat_Int, Int.reduceToNat, Int.reduceLT, Int.reduceLE, Int.reduceGE, Int.reduceGT, Int.reduceEq, Int.reduceNe, Int.reduceAdd, Int.reduceSub, Int.reduceNeg, decide_true, decide_false, Int.toNat_natCast, reduceCtorEq, List.nil_append, List.cons_append, AV.boxy, AV.cells, List.length_cons, List.length_nil, Nat.beq_refl, AOp.cl, ↓OW_guard, ↓DW_guard, KDW_0, KDW_1, KDW_2, OWskip_eq, DWskip_eq, fillA, setAt, DChk, DAt, stepA, ble_dec, beq_dec, Bool.and_self, Bool.and_true, Bool.true_and, Bool.and_false, Bool.false_and, List.take_succ_cons, List.take_zero, List.drop_succ_cons, List.drop_zero, List.take_nil, List.drop_nil, List.append_nil, eqAV, eqAVL, BEq.rfl, eqA, eqD, sameS, Option.map, Option.isNone, addrA, wrap64, gt_iff_lt, ge_iff_le, Int.lt_irrefl, Int.le_refl]
    refine CW.mono (c_out h hi ht e) ?_
    rintro v H2 ⟨rfl, ⟨f1, q1, -⟩, fp1⟩
    obtain ⟨H3, e1, e2, e3, e4⟩ := q1.put (i := 13 + p) (by omega) (v := .int .i64 0) rfl
    rw [show (AV.int .i64 0) = iv 0 from rfl, off1_R] at e3
    simp -implicitDefEqProofs only [iv, hp0, hp6', e1, mEnd, hf, ↓WP_seq, ↓WP_skip, ↓WP_region, ↓WP_dregion, ↓WP_cond, ↓WP_block, ↓WP_exit, ↓WP_ret, ↓OW_nil, ↓OW_cons, ↓DW_nil, ↓DW_cons, ↓XW_call, XW, exA, KO_eq, KD_eq, OptK_some, EvK_some, GW2_true, GW2_false, KS_normal, KS_ret, KS_exit, KB_normal, KB_ret, KB_exit, CP2_bool, RP_ret, RP_normal, putA_some, putA_none, ev_t, ev_c, evs, evo, wantA, initA, resA, Tr.get_set, vl, chkOk, cond_true, cond_false, Nat.add_zero, Nat.mul_one, Nat.one_mul, Nat.zero_add, Nat.zero_mul, aggOf, pInt, binA, unA, intA, beq_true, beq_false, Bool.not_true, Bool.not_false, Bool.not_eq_true, and_self, and_true, true_and, ↓reduceIte, reduceIte, Nat.reduceEqDiff, Nat.succ_ne_self, Nat.reduceAdd, Nat.reduceMul, Nat.reduceSub, Nat.reduceBEq, Nat.reduceLT, Nat.reduceLeDiff, Int.cast_ofNat_Int, Int.reduceToNat, Int.reduceLT, Int.reduceLE, Int.reduceGE, Int.reduceGT, Int.reduceEq, Int.reduceNe, Int.reduceAdd, Int.reduceSub, Int.reduceNeg, decide_true, decide_false, Int.toNat_natCast, reduceCtorEq, List.nil_append, List.cons_append, AV.boxy, AV.cells, List.length_cons, List.length_nil, Nat.beq_refl, AOp.cl, ↓OW_guard, ↓DW_guard, KDW_0, KDW_1, KDW_2, OWskip_eq, DWskip_eq, fillA, setAt, DChk, DAt, stepA, ble_dec, beq_dec, Bool.and_self, Bool.and_true, Bool.true_and, Bool.and_false, Bool.false_and, List.take_succ_cons, List.take_zero, List.drop_succ_cons, List.drop_zero, List.take_nil, List.drop_nil, List.append_nil, eqAV, eqAVL, BEq.rfl, eqA, eqD, sameS, Option.map, Option.isNone, addrA, wrap64, gt_iff_lt, ge_iff_le, Int.lt_irrefl, Int.le_refl]
    exact Go.trans ⟨⟨f1, q1⟩, fp1⟩ ⟨⟨_, e3⟩, e4⟩
theorem c_Sleep (h : QC H b 25 f D (gP s)) (hi : Inv s) (u : Int) : CW M0 37 [.ptr (some (b, 0)), iv u] H fun v H' => v = .bool (fst1 s).isSome ∧ Go H H' b 25 D (gP (mSleep s u)) := by
  refine CW_of (fn := af37) rfl ?_
  unfold af37
  simp -implicitDefEqProofs only [↓WP_seq, ↓WP_skip, ↓WP_region, ↓WP_dregion, ↓WP_cond, ↓WP_block, ↓WP_exit, ↓WP_ret, ↓OW_nil, ↓OW_cons, ↓DW_nil, ↓DW_cons, ↓XW_call, XW, exA, KO_eq, KD_eq, OptK_some, EvK_some, GW2_true, GW2_false, KS_normal, KS_ret, KS_exit, KB_normal, KB_ret, KB_exit, CP2_bool, RP_ret, RP_normal, putA_some, putA_none, ev_t, ev_c, evs, evo, wantA, initA, resA, Tr.get_set, vl, chkOk, cond_true, cond_false, Nat.add_zero, Nat.mul_one, Nat.one_mul, Nat.zero_add, Nat.zero_mul, aggOf, pInt, binA, unA, intA, beq_true, beq_false, Bool.not_true, Bool.not_false, Bool.not_eq_true, and_self, and_true, true_and, ↓reduceIte, reduceIte, Nat.reduceEqDiff, Nat.succ_ne_self, Nat.reduceAdd, Nat.reduceMul, Nat.reduceSub, Nat.reduceBEq, Nat.reduceLT, Nat.reduceLeDiff, Int.cast_ofNat_Int, Int.reduceToNat, Int.reduceLT, Int.reduceLE, Int.reduceGE, Int.reduceGT, Int.reduceEq, Int.reduceNe, Int.reduceAdd, Int.reduceSub, Int.reduceNeg, decide_true, decide_false, Int.toNat_natCast, reduceCtorEq, List.nil_append, List.cons_append, AV.boxy, AV.cells, List.length_cons, List.length_nil, Nat.beq_refl, AOp.cl, ↓OW_guard, ↓DW_guard, KDW_0, KDW_1, KDW_2, OWskip_eq, DWskip_eq, fillA, setAt, DChk, DAt, stepA, ble_dec, beq_dec, Bool.and_self, Bool.and_true, Bool.true_and, Bool.and_false, Bool.false_and, List.take_succ_cons, List.take_zero, List.drop_succ_cons, List.drop_zero, List.take_nil, List.drop_nil, List.append_nil, eqAV, eqAVL, BEq.rfl, eqA, eqD, sameS, Option.map, Option.isNone, addrA, wrap64, gt_iff_lt, ge_iff_le, Int.lt_irrefl, Int.le_refl]
  refine CW.mono (c_take h hi) ?_
  rintro v H1 ⟨rfl, ⟨f1, q1, -⟩, fp1⟩
  cases hf : fst1 s with
  | none =>
    have hk : tk s = s := by simp [tk, fst1_none hf]
    rw [hk] at q1
    simp -implicitDefEqProofs only [iv, optI, mSleep, hf, Option.isSome, ↓WP_seq, ↓WP_skip, ↓WP_region, ↓WP_dregion, ↓WP_cond, ↓WP_block, ↓WP_exit, ↓WP_ret, ↓OW_nil, ↓OW_cons, ↓DW_nil, ↓DW_cons, ↓XW_call, XW, exA, KO_eq, KD_eq, OptK_some, EvK_some, GW2_true, GW2_false, KS_normal, KS_ret, KS_exit, KB_normal, KB_ret, KB_exit, CP2_bool, RP_ret, RP_normal, putA_some, putA_none, ev_t, ev_c, evs, evo, wantA, initA, resA, Tr.get_set, vl, chkOk, cond_true, cond_false, Nat.add_zero, Nat.mul_one, Nat.one_mul, Nat.zero_add, Nat.zero_mul, aggOf, pInt, binA, unA, intA, beq_true, beq_false, Bool.not_true, Bool.not_false, Bool.not_eq_true, and_self, and_true, true_and, ↓reduceIte, reduceIte, Nat.reduceEqDiff, Nat.succ_ne_self, Nat.reduceAdd, Nat.reduceMul, Nat.reduceSub, Nat.reduceBEq, Nat.reduceLT, Nat.reduceLeDiff, Int.cast_ofNat_Int, Int.reduceToNat, Int.reduceLT, Int.reduceLE, Int.reduceGE, Int.reduceGT, Int.reduceEq, Int.reduceNe, Int.reduceAdd, Int.reduceSub, Int.reduceNeg, decide_true, decide_false, Int.toNat_natCast, reduceCtorEq, List.nil_append, List.cons_append, AV.boxy, AV.cells, List.length_cons, List.length_nil, Nat.beq_refl, AOp.cl, ↓OW_guard, ↓DW_guard, KDW_0, KDW_1, KDW_2, OWskip_eq, DWskip_eq, fillA, setAt, DChk, DAt, stepA, ble_dec, beq_dec, Bool.and_self, Bool.and_true, Bool.true_and, Bool.and_false, Bool.false_and, List.take_succ_cons, List.take_zero, List.drop_succ_cons, List.drop_zero, List.take_nil, List.drop_nil, List.append_nil, eqAV, eqAVL, BEq.rfl, eqA, eqD, sameS, Option.map, Option.isNone, addrA, wrap64, gt_iff_lt, ge_iff_le, Int.lt_irrefl, Int.le_refl]
    exact ⟨⟨f1, q1⟩, fp1⟩
  | some p =>
    have hp0 : (0 : Int) ≤ p := by omega
    have hlen := hi.lens
    have hg : gP (tk s) 12 = .sl 2 (tk s).s.length (slp (tk s).s) := by rw [gP_C (by omega), gC_s]
    have l1 := q1.load (i := 12) (by omega)
    obtain ⟨H2, H3, g1, g2, g3, g4, g5, g6⟩ := q1.push (bytes := 16) (i := 12) (by omega) hg (ys := [.int .i64 p, .int .i64 u]) rfl (by rw [tk_s]; omega) (by rw [tk_s]; omega)
    have eg : upd (gP (tk s)) 12 (.sl 2 ((tk s).s.length + 1) (slp (tk s).s ++ [.int .i64 p, .int .i64 u])) = gP (mSleep s u) := by
      simp only [mSleep, hf]
      exact sets_P (by simp) (by simp [slp, iv])
    rw [eg] at g5
    simp -implicitDefEqProofs only [iv, optI, hp0, l1, g1, g2, Option.isSome, ↓WP_seq, ↓WP_skip, ↓WP_region, ↓WP_dregion, ↓WP_cond, ↓WP_block, ↓WP_exit, ↓WP_ret, ↓OW_nil, ↓OW_cons, ↓DW_nil, ↓DW_cons, ↓XW_call, XW, exA, KO_eq, KD_eq, OptK_some, EvK_some, GW2_true, GW2_false, KS_normal, KS_ret, KS_exit, KB_normal, KB_ret, KB_exit, CP2_bool, RP_ret, RP_normal, putA_some, putA_none, ev_t, ev_c, evs, evo, wantA, initA, resA, Tr.get_set, vl, chkOk, cond_true, cond_false, Nat.add_zero, Nat.mul_one, Nat.one_mul, Nat.zero_add, Nat.zero_mul, aggOf, pInt, binA, unA, intA, beq_true, beq_false, Bool.not_true, Bool.not_false, Bool.not_eq_true, and_self, and_true, true_and, ↓reduceIte, reduceIte, Nat.reduceEqDiff, Nat.succ_ne_self, Nat.reduceAdd, Nat.reduceMul, Nat.reduceSub, Nat.reduceBEq, Nat.reduceLT, Nat.reduceLeDiff, Int.cast_ofNat_Int, Int.reduceToNat, Int.reduceLT, Int.reduceLE, Int.reduceGE, Int.reduceGT, Int.reduceEq, Int.reduceNe, Int.reduceAdd, Int.reduceSub, Int.reduceNeg, decide_true, decide_false, Int.toNat_natCast, reduceCtorEq, List.nil_append, List.cons_append, AV.boxy, AV.cells, List.length_cons, List.length_nil, Nat.beq_refl, AOp.cl, ↓OW_guard, ↓DW_guard, KDW_0, KDW_1, KDW_2, OWskip_eq, DWskip_eq, fillA, setAt, DChk, DAt, stepA, ble_dec, beq_dec, Bool.and_self, Bool.and_true, Bool.true_and, Bool.and_false, Bool.false_and, List.take_succ_cons, List.take_zero, List.drop_succ_cons, List.drop_zero, List.take_nil, List.drop_nil, List.append_nil, eqAV, eqAVL, BEq.rfl, eqA, eqD, sameS, Option.map, Option.isNone, addrA, wrap64, gt_iff_lt, ge_iff_le, Int.lt_irrefl, Int.le_refl]
    exact Go.trans ⟨⟨f1, q1⟩, fp1⟩ ⟨⟨_, g5⟩, g6⟩
theorem c_rSleep (h : QC H b 19 f D (gR s)) (hi : Inv s) (u : Int) : CW M0 66 [.ptr (some (b, 0)), iv u] H fun v H' => v = .bool (fst1 s).isSome ∧ Go H H' b 19 D (gR (mSleep s u)) := by
  refine CW_of (fn := af66) rfl ?_
  unfold af66
  simp -implicitDefEqProofs only [↓WP_seq, ↓WP_skip, ↓WP_region, ↓WP_dregion, ↓WP_cond, ↓WP_block, ↓WP_exit, ↓WP_ret, ↓OW_nil, ↓OW_cons, ↓DW_nil, ↓DW_cons, ↓XW_call, XW, exA, KO_eq, KD_eq, OptK_some, EvK_some, GW2_true, GW2_false, KS_normal, KS_ret, KS_exit, KB_normal, KB_ret, KB_exit, CP2_bool, RP_ret, RP_normal, putA_some, putA_none, ev_t, ev_c, evs, evo, wantA, initA, resA, Tr.get_set, vl, chkOk, cond_true, cond_false, Nat.add_zero, Nat.mul_one, Nat.one_mul, Nat.zero_add, Nat.zero_mul, aggOf, pInt, binA, unA, intA, beq_true, beq_false, Bool.not_true, Bool.not_false, Bool.not_eq_true, and_self, and_true, true_and, ↓reduceIte, reduceIte, Nat.reduceEqDiff, Nat.succ_ne_self, Nat.reduceAdd, Nat.reduceMul, Nat.reduceSub, Nat.reduceBEq, Nat.reduceLT, Nat.reduceLeDiff, Int.cast_ofNat_Int, Int.reduceToNat, Int.reduceLT, Int.reduceLE, Int.reduceGE, Int.reduceGT, Int.reduceEq, Int.reduceNe, Int.reduceAdd, Int.reduceSub, Int.reduceNeg, decide_true, decide_false, Int.toNat_natCast, reduceCtorEq, List.nil_append, List.cons_append, AV.boxy, AV.cells, List.length_cons, List.length_nil, Nat.beq_refl, AOp.cl, ↓OW_guard, ↓DW_guard, KDW_0, KDW_1, KDW_2, OWskip_eq, DWskip_eq, fillA, setAt, DChk, DAt, stepA, ble_dec, beq_dec, Bool.and_self, Bool.and_true, Bool.true_and, Bool.and_false, Bool.false_and, List.take_succ_cons, List.take_zero, List.drop_succ_cons, List.drop_zero, List.take_nil, List.drop_nil, List.append_nil, eqAV, eqAVL, BEq.rfl, eqA, eqD, sameS, Option.map, Option.isNone, addrA, wrap64, gt_iff_lt, ge_iff_le, Int.lt_irrefl, Int.le_refl]
  refine CW.mono (c_top h.qlR) ?_
  rintro v H1 ⟨rfl, rfl⟩
  cases hf : fst1 s with
  | none =>
    rw [fst1_none hf]
    simp -implicitDefEqProofs only [iv, optI, mSleep, hf, Option.isSome, ↓WP_seq, ↓WP_skip, ↓WP_region, ↓WP_dregion, ↓WP_cond, ↓WP_block, ↓WP_exit, ↓WP_ret, ↓OW_nil, ↓OW_cons, ↓DW_nil, ↓DW_cons, ↓XW_call, XW, exA, KO_eq, KD_eq, OptK_some, EvK_some, GW2_true, GW2_false, KS_normal, KS_ret, KS_exit, KB_normal, KB_ret, KB_exit, CP2_bool, RP_ret, RP_normal, putA_some, putA_none, ev_t, ev_c, evs, evo, wantA, initA, resA, Tr.get_set, vl, chkOk, cond_true, cond_false, Nat.add_zero, Nat.mul_one, Nat.one_mul, Nat.zero_add, Nat.zero_mul, aggOf, pInt, binA, unA, intA, beq_true, beq_false, Bool.not_true, Bool.not_false, Bool.not_eq_true, and_self, and_true, true_and, ↓reduceIte, reduceIte, Nat.reduceEqDiff, Nat.succ_ne_self, Nat.reduceAdd, Nat.reduceMul, Nat.reduceSub, Nat.reduceBEq, Nat.reduceLT, Nat.reduceLeDiff, Int.cast_ofNat_Int, Int.reduceToNat, Int.reduceLT, Int.reduceLE, Int.reduceGE, Int.reduceGT, Int.reduceEq, Int.reduceNe, Int.reduceAdd, Int.reduceSub, Int.reduceNeg, decide_true, decide_false, Int.toNat_natCast, reduceCtorEq, List.nil_append, List.cons_append, AV.boxy, AV.cells, List.length_cons, List.length_nil, Nat.beq_refl, AOp.cl, ↓OW_guard, ↓DW_guard, KDW_0, KDW_1, KDW_2, OWskip_eq, DWskip_eq, fillA, setAt, DChk, DAt, stepA, ble_dec, beq_dec, Bool.and_self, Bool.and_true, Bool.true_and, Bool.and_false, Bool.false_and, List.take_succ_cons, List.take_zero, List.drop_succ_cons, List.drop_zero, List.take_nil, List.drop_nil, List.append_nil, eqAV, eqAVL, BEq.rfl, eqA, eqD, sameS, Option.map, Option.isNone, addrA, wrap64, gt_iff_lt, ge_iff_le, Int.lt_irrefl, Int.le_refl]
    exact Go.of h
  | some p =>
    obtain ⟨l, t, ht, hl, e⟩ := fst1_some hf
    have hn : ¬ (l : Int) < 0 := by omega
    have l0 := h.load (i := 12) (by omega)
    rw [ht]
    simp -implicitDefEqProofs only [iv, optI, hn, l0, Option.isSome, ↓WP_seq, ↓WP_skip, ↓WP_region, ↓WP_dregion, ↓WP_cond, ↓WP_block, ↓WP_exit, ↓WP_ret, ↓OW_nil, ↓OW_cons, ↓DW_nil, ↓DW_cons, ↓XW_call, XW, exA, KO_eq, KD_eq, OptK_some, EvK_some, GW2_true, GW2_false, KS_normal, KS_ret, KS_exit, KB_normal, KB_ret, KB_exit, CP2_bool, RP_ret, RP_normal, putA_some, putA_none, ev_t, ev_c, evs, evo, wantA, initA, resA, Tr.get_set, vl, chkOk, cond_true, cond_false, Nat.add_zero, Nat.mul_one, Nat.one_mul, Nat.zero_add, Nat.zero_mul, aggOf, pInt, binA, unA, intA, beq_true, beq_false, Bool.not_true, Bool.not_false, Bool.not_eq_true, and_self, and_true, true_and, ↓reduceIte, reduceIte, Nat.reduceEqDiff, Nat.succ_ne_self, Nat.reduceAdd, Nat.reduceMul, Nat.reduceSub, Nat.reduceBEq, Nat.reduceLT, Nat.reduceLeDiff, Int.cast_ofNat_Int, Int.reduceToNat, Int.reduceLT, Int.reduceLE, Int.reduceGE, Int.reduceGT, Int.reduceEq, Int.reduceNe, Int.reduceAdd, Int.reduceSub, Int.reduceNeg, decide_true, decide_false, Int.toNat_natCast, reduceCtorEq, List.nil_append, List.cons_append, AV.boxy, AV.cells, List.length_cons, List.length_nil, Nat.beq_refl, AOp.cl, ↓OW_guard, ↓DW_guard, KDW_0, KDW_1, KDW_2, OWskip_eq, DWskip_eq, fillA, setAt, DChk, DAt, stepA, ble_dec, beq_dec, Bool.and_self, Bool.and_true, Bool.true_and, Bool.and_false, Bool.false_and, List.take_succ_cons, List.take_zero, List.drop_succ_cons, List.drop_zero, List.take_nil, List.drop_nil, List.append_nil, eqAV, eqAVL, BEq.rfl, eqA, eqD, sameS, Option.map, Option.isNone, addrA, wrap64, gt_iff_lt, ge_iff_le, Int.lt_irrefl, Int.le_refl]
    refine CW.mono (c_out h hi ht e) ?_
    rintro v H2 ⟨rfl, ⟨f1, q1, hf1⟩, fp1⟩
    have hlen := hi.lens
    have hg : gR (tk s) 12 = .sl 2 (tk s).s.length (slp (tk s).s) := by rw [gR_C (by omega), gC_s]
    have l1 := q1.load (i := 12) (by omega)
    obtain ⟨H3, H4, g1, g2, g3, g4, g5, g6⟩ := q1.push (bytes := 16) (i := 12) (by omega) hg (ys := [.int .i64 p, .int .i64 u]) rfl (by rw [tk_s]; omega) (by rw [tk_s]; omega)
    have eg : upd (gR (tk s)) 12 (.sl 2 ((tk s).s.length + 1) (slp (tk s).s ++ [.int .i64 p, .int .i64 u])) = gR (mSleep s u) := by
      simp only [mSleep, hf]
      exact sets_R (by simp) (by simp [slp, iv])
    rw [eg] at g5
    have f12 : f1 12 = f 12 := hf1 12 (by omega)
    have l2 := g3 12 (by omega)
    have qq := (q1.sl (i := 12) (by omega) hg).refl
    rw [f12] at g1 l1 l2 qq
    simp -implicitDefEqProofs only [iv, l0, l1, l2, qq, g1, g2, ↓WP_seq, ↓WP_skip, ↓WP_region, ↓WP_dregion, ↓WP_cond, ↓WP_block, ↓WP_exit, ↓WP_ret, ↓OW_nil, ↓OW_cons, ↓DW_nil, ↓DW_cons, ↓XW_call, XW, exA, KO_eq, KD_eq, OptK_some, EvK_some, GW2_true, GW2_false, KS_normal, KS_ret, KS_exit, KB_normal, KB_ret, KB_exit, CP2_bool, RP_ret, RP_normal, putA_some, putA_none, ev_t, ev_c, evs, evo, wantA, initA, resA, Tr.get_set, vl, chkOk, cond_true, cond_false, Nat.add_zero, Nat.mul_one, Nat.one_mul, Nat.zero_add, Nat.zero_mul, aggOf, pInt, binA, unA, intA, beq_true, beq_false, Bool.not_true, Bool.not_false, Bool.not_eq_true, and_self, and_true, true_and, ↓reduceIte, reduceIte, Nat.reduceEqDiff, Nat.succ_ne_self, Nat.reduceAdd, Nat.reduceMul, Nat.reduceSub, Nat.reduceBEq, Nat.reduceLT, Nat.reduceLeDiff, Int.cast_ofNat_Int, Int.reduceToNat, Int.reduceLT, Int.reduceLE, Int.reduceGE, Int.reduceGT, Int.reduceEq, Int.reduceNe, Int.reduceAdd, Int.reduceSub, Int.reduceNeg, decide_true, decide_false, Int.toNat_natCast, reduceCtorEq, List.nil_append, List.cons_append, AV.boxy, AV.cells, List.length_cons, List.length_nil, Nat.beq_refl, AOp.cl, ↓OW_guard, ↓DW_guard, KDW_0, KDW_1, KDW_2, OWskip_eq, DWskip_eq, fillA, setAt, DChk, DAt, stepA, ble_dec, beq_dec, Bool.and_self, Bool.and_true, Bool.true_and, Bool.and_false, Bool.false_and, List.take_succ_cons, List.take_zero, List.drop_succ_cons, List.drop_zero, List.take_nil, List.drop_nil, List.append_nil, eqAV, eqAVL, BEq.rfl, eqA, eqD, sameS, Option.map, Option.isNone, addrA, wrap64, gt_iff_lt, ge_iff_le, Int.lt_irrefl, Int.le_refl]
    exact Go.trans ⟨⟨f1, q1⟩, fp1⟩ ⟨⟨_, g5⟩, g6⟩
end
end Go.Proofs.Ytldlolpbnfgdeaa.AA
namespace Go.Proofs.Ytldlolpbnfgdeaa.AA
open Go Go.RowKit
set_option maxRecDepth 100000
set_option maxHeartbeats 1000000
section
variable {H : AHeap} {b n : Nat} {f : Nat → AV} {D : Nat → Prop} {g : Nat → SV} {s : QS}
theorem c_Wait (h : QC H b 25 f D (gP s)) (hi : Inv s) (m : Int) : CW M0 34 [.ptr (some (b, 0)), iv m] H fun v H' => v = .bool (okW s m) ∧ Go H H' b 25 D (gP (mWait s m)) := by
  refine CW_of (fn := af34) rfl ?_
  unfold af34
  by_cases h0 : 0 ≤ m
  · have hn0 : ¬ m < 0 := by omega
    by_cases h4 : m < 4
    · have hn4 : ¬ 4 ≤ m := by omega
      obtain ⟨P, rfl⟩ := Int.eq_ofNat_of_zero_le h0
      simp -implicitDefEqProofs only [iv, h0, hn0, h4, hn4, Bool.false_eq_true, ↓WP_seq, ↓WP_skip, ↓WP_region, ↓WP_dregion, ↓WP_cond, ↓WP_block, ↓WP_exit, ↓WP_ret, ↓OW_nil, ↓OW_cons, ↓DW_nil, ↓DW_cons, ↓XW_call, XW, exA, KO_eq, KD_eq, OptK_some, EvK_some, GW2_true, GW2_false, KS_normal, KS_ret, KS_exit, KB_normal, KB_ret, KB_exit, CP2_bool, RP_ret, RP_normal, putA_some, putA_none, ev_t, ev_c, evs, evo, wantA, initA, resA, Tr.get_set, vl, chkOk, cond_true, cond_false, Nat.add_zero, Nat.mul_one, Nat.one_mul, Nat.zero_add, Nat.zero_mul, aggOf, pInt, binA, unA, intA, beq_true, beq_false, Bool.not_true, Bool.not_false, Bool.not_eq_true, and_self, and_true, true_and, ↓reduceIte, reduceIte, Nat.reduceEqDiff, Nat.succ_ne_self, Nat.reduceAdd, Nat.reduceMul, Nat.reduceSub, Nat.reduceBEq, Nat.reduceLT, Nat.reduceLeDiff, Int.cast_ofNat_Int, Int.reduceToNat, Int.reduceLT, Int.reduceLE, Int.reduceGE, Int.reduceGT, Int.reduceEq, Int.reduceNe, Int.reduceAdd, Int.reduceSub, Int.reduceNeg, decide_true, decide_false, Int.toNat_natCast, reduceCtorEq, List.nil_append, List.cons_append, AV.boxy, AV.cells, List.length_cons, List.length_nil, Nat.beq_refl, AOp.cl, ↓OW_guard, ↓DW_guard, KDW_0, KDW_1, KDW_2, OWskip_eq, DWskip_eq, fillA, setAt, DChk, DAt, stepA, ble_dec, beq_dec, Bool.and_self, Bool.and_true, Bool.true_and, Bool.and_false, Bool.false_and, List.take_succ_cons, List.take_zero, List.drop_succ_cons, List.drop_zero, List.take_nil, List.drop_nil, List.append_nil, eqAV, eqAVL, BEq.rfl, eqA, eqD, sameS, Option.map, Option.isNone, addrA, wrap64, gt_iff_lt, ge_iff_le, Int.lt_irrefl, Int.le_refl]
      refine CW.mono (c_First h.qlP) ?_
      rintro v H' ⟨rfl, rfl⟩
      cases hf : fst1 s with
      | none =>
        have hk : okW s (P : Int) = false := by simp [okW, hf]
        simp -implicitDefEqProofs only [iv, optI, hk, mWait, Bool.false_eq_true, ↓WP_seq, ↓WP_skip, ↓WP_region, ↓WP_dregion, ↓WP_cond, ↓WP_block, ↓WP_exit, ↓WP_ret, ↓OW_nil, ↓OW_cons, ↓DW_nil, ↓DW_cons, ↓XW_call, XW, exA, KO_eq, KD_eq, OptK_some, EvK_some, GW2_true, GW2_false, KS_normal, KS_ret, KS_exit, KB_normal, KB_ret, KB_exit, CP2_bool, RP_ret, RP_normal, putA_some, putA_none, ev_t, ev_c, evs, evo, wantA, initA, resA, Tr.get_set, vl, chkOk, cond_true, cond_false, Nat.add_zero, Nat.mul_one, Nat.one_mul, Nat.zero_add, Nat.zero_mul, aggOf, pInt, binA, unA, intA, beq_true, beq_false, Bool.not_true, Bool.not_false, Bool.not_eq_true, and_self, and_true, true_and, ↓reduceIte, reduceIte, Nat.reduceEqDiff, Nat.succ_ne_self, Nat.reduceAdd, Nat.reduceMul, Nat.reduceSub, Nat.reduceBEq, Nat.reduceLT, Nat.reduceLeDiff, Int.cast_ofNat_Int, Int.reduceToNat, Int.reduceLT, Int.reduceLE, Int.reduceGE, Int.reduceGT, Int.reduceEq, Int.reduceNe, Int.reduceAdd, Int.reduceSub, Int.reduceNeg, decide_true, decide_false, Int.toNat_natCast, reduceCtorEq, List.nil_append, List.cons_append, AV.boxy, AV.cells, List.length_cons, List.length_nil, Nat.beq_refl, AOp.cl, ↓OW_guard, ↓DW_guard, KDW_0, KDW_1, KDW_2, OWskip_eq, DWskip_eq, fillA, setAt, DChk, DAt, stepA, ble_dec, beq_dec, Bool.and_self, Bool.and_true, Bool.true_and, Bool.and_false, Bool.false_and, List.take_succ_cons, List.take_zero, List.drop_succ_cons, List.drop_zero, List.take_nil, List.drop_nil, List.append_nil, eqAV, eqAVL, BEq.rfl, eqA, eqD, sameS, Option.map, Option.isNone, addrA, wrap64, gt_iff_lt, ge_iff_le, Int.lt_irrefl, Int.le_refl]
        exact Go.of h
      | some p =>
        have hk : okW s (P : Int) = true := by simp [okW, hf]; omega
        have hnp : ¬ (p : Int) < 0 := by omega
        have l0 := h.load (i := 8 + P) (by omega)
        have f0 : f (8 + P) = .int .i64 (s.c P) := h.sc (by omega) (by rw [gP_C (by omega), gC_c (by omega)]; rfl)
        have hcb := hi.cb P
        by_cases hc : 0 < s.c P
        · have hc' : (0 : Int) < s.c P := by omega
          have hw : IntKind.i64.wrap ((s.c P : Int) - 1) = ((s.c P - 1 : Nat) : Int) := by rw [wrap64 (by omega) (by omega)]; omega
          obtain ⟨H1, e1, e2, e3, e4⟩ := h.put (i := 8 + P) (by omega) (v := .int .i64 ((s.c P - 1 : Nat) : Int)) rfl
          have eg : upd (gP s) (8 + P) (.sc (.int .i64 ((s.c P - 1 : Nat) : Int))) = gP (mWait s P) := by
            simp only [mWait, hk, if_true, Int.toNat_natCast, hc]
            exact setc_P (by omega)
          rw [eg] at e3
          simp -implicitDefEqProofs only [iv, optI, hnp, l0, f0, hc', h0, h4, hw, e1, hk, Bool.false_eq_true, ↓WP_seq, ↓WP_skip, ↓WP_region, ↓WP_dregion, ↓WP_cond, ↓WP_block, ↓WP_exit, ↓WP_ret, ↓OW_nil, ↓OW_cons, ↓DW_nil, ↓DW_cons, ↓XW_call, XW, exA, KO_eq, KD_eq, OptK_some, EvK_some, GW2_true, GW2_false, KS_normal, KS_ret, KS_exit, KB_normal, KB_ret, KB_exit, CP2_bool, RP_ret, RP_normal, putA_some, putA_none, ev_t, ev_c, evs, evo, wantA, initA, resA, Tr.get_set, vl, chkOk, cond_true, cond_false, Nat.add_zero, Nat.mul_one, Nat.one_mul, Nat.zero_add, Nat.zero_mul, aggOf, pInt, binA, unA, intA, beq_true, beq_false, Bool.not_true, Bool.not_false, Bool.not_eq_true, and_self, and_true, true_and, ↓reduceIte, reduceIte, Nat.reduceEqDiff, Nat.succ_ne_self, Nat.reduceAdd, Nat.reduceMul, Nat.reduceSub, Nat.reduceBEq, Nat.reduceLT, Nat.reduceLeDiff, Int.cast_ofNat_Int, Int.reduceToNat, Int.reduceLT, Int.reduceLE, Int.reduceGE, Int.reduceGT, Int.reduceEq, Int.reduceNe, Int.reduceAdd, Int.reduceSub, Int.reduceNeg, decide_true, decide_false, Int.toNat_natCast, reduceCtorEq, List.nil_append, List.cons_append, AV.boxy, AV.cells, List.length_cons, List.length_nil, Nat.beq_refl, AOp.cl, ↓OW_guard, ↓DW_guard, KDW_0, KDW_1, KDW_2, OWskip_eq, DWskip_eq, fillA, setAt, DChk, DAt, stepA, ble_dec, beq_dec, Bool.and_self, Bool.and_true, Bool.true_and, Bool.and_false, Bool.false_and, List.take_succ_cons, List.take_zero, List.drop_succ_cons, List.drop_zero, List.take_nil, List.drop_nil, List.append_nil, eqAV, eqAVL, BEq.rfl, eqA, eqD, sameS, Option.map, Option.isNone, addrA, wrap64, gt_iff_lt, ge_iff_le, Int.lt_irrefl, Int.le_refl]
          exact ⟨⟨_, e3⟩, e4⟩
        · have hc' : ¬ (0 : Int) < s.c P := by omega
          have l1 := h.load (i := 4 + P) (by omega)
          simp -implicitDefEqProofs only [iv, optI, hnp, l0, f0, hc', h0, h4, l1, Bool.false_eq_true, ↓WP_seq, ↓WP_skip, ↓WP_region, ↓WP_dregion, ↓WP_cond, ↓WP_block, ↓WP_exit, ↓WP_ret, ↓OW_nil, ↓OW_cons, ↓DW_nil, ↓DW_cons, ↓XW_call, XW, exA, KO_eq, KD_eq, OptK_some, EvK_some, GW2_true, GW2_false, KS_normal, KS_ret, KS_exit, KB_normal, KB_ret, KB_exit, CP2_bool, RP_ret, RP_normal, putA_some, putA_none, ev_t, ev_c, evs, evo, wantA, initA, resA, Tr.get_set, vl, chkOk, cond_true, cond_false, Nat.add_zero, Nat.mul_one, Nat.one_mul, Nat.zero_add, Nat.zero_mul, aggOf, pInt, binA, unA, intA, beq_true, beq_false, Bool.not_true, Bool.not_false, Bool.not_eq_true, and_self, and_true, true_and, ↓reduceIte, reduceIte, Nat.reduceEqDiff, Nat.succ_ne_self, Nat.reduceAdd, Nat.reduceMul, Nat.reduceSub, Nat.reduceBEq, Nat.reduceLT, Nat.reduceLeDiff, Int.cast_ofNat_Int, Int.reduceToNat, Int.reduceLT, Int.reduceLE, Int.reduceGE, Int.reduceGT, Int.reduceEq, Int.reduceNe, Int.reduceAdd, Int.reduceSub, Int.reduceNeg, decide_true, decide_false, Int.toNat_natCast, reduceCtorEq, List.nil_append, List.cons_append, AV.boxy, AV.cells, List.length_cons, List.length_nil, Nat.beq_refl, AOp.cl, ↓OW_guard, ↓DW_guard, KDW_0, KDW_1, KDW_2, OWskip_eq, DWskip_eq, fillA, setAt, DChk, DAt, stepA, ble_dec, beq_dec, Bool.and_self, Bool.and_true, Bool.true_and, Bool.and_false, Bool.false_and, List.take_succ_cons, List.take_zero, List.drop_succ_cons, List.drop_zero, List.take_nil, List.drop_nil, List.append_nil, eqAV, eqAVL, BEq.rfl, eqA, eqD, sameS, Option.map, Option.isNone, addrA, wrap64, gt_iff_lt, ge_iff_le, Int.lt_irrefl, Int.le_refl]
          refine CW.mono (c_take h hi) ?_
          rintro v H1 ⟨rfl, ⟨f1, q1, hf1⟩, fp1⟩
          rw [hf]
          have hlen := hi.lenr (i := 4 + P) (by omega)
          have hr4 : (tk s).r (4 + P) = s.r (4 + P) := tk_hi s (by omega)
          have hg : gP (tk s) (4 + P) = .sl 1 ((tk s).r (4 + P)).length (nats ((tk s).r (4 + P))) := by rw [gP_C (by omega), gC_r (by omega)]
          obtain ⟨H2, H3, g1, g2, g3, g4, g5, g6⟩ := q1.push (bytes := 8) (i := 4 + P) (by omega) hg (ys := [.int .i64 p]) rfl (by rw [hr4]; omega) (by rw [hr4]; omega)
          have eg : upd (gP (tk s)) (4 + P) (.sl 1 (((tk s).r (4 + P)).length + 1) (nats ((tk s).r (4 + P)) ++ [.int .i64 p])) = gP (mWait s P) := by
            simp only [mWait, hk, if_true, Int.toNat_natCast, hc, if_false, hf]
            exact setr_P (by omega) (by simp) (by simp [nats, iv])
          rw [eg] at g5
          have l2 := q1.load (i := 4 + P) (by omega)
          have l3 := g3 (4 + P) (by omega)
          have qq := (q1.sl (i := 4 + P) (by omega) hg).refl
          have f4 : f1 (4 + P) = f (4 + P) := hf1 _ (by omega)
          rw [f4] at g1 l2 l3 qq
          simp -implicitDefEqProofs only [iv, optI, h0, h4, l1, l2, l3, qq, g1, g2, hk, ↓WP_seq, ↓WP_skip, ↓WP_region, ↓WP_dregion, ↓WP_cond, ↓WP_block, ↓WP_exit, ↓WP_ret, ↓OW_nil, ↓OW_cons, ↓DW_nil, ↓DW_cons, ↓XW_call, XW, exA, KO_eq, KD_eq, OptK_some, EvK_some, GW2_true, GW2_false, KS_normal, KS_ret, KS_exit, KB_normal, KB_ret, KB_exit, CP2_bool, RP_ret, RP_normal, putA_some, putA_none, ev_t, ev_c, evs, evo, wantA, initA, resA, Tr.get_set, vl, chkOk, cond_true, cond_false, Nat.add_zero, Nat.mul_one, Nat.one_mul, Nat.zero_add, Nat.zero_mul, aggOf, pInt, binA, unA, intA, beq_true, beq_false, Bool.not_true, Bool.not_false, Bool.not_eq_true, and_self, and_true, true_and, ↓reduceIte, reduceIte, Nat.reduceEqDiff, Nat.succ_ne_self, Nat.reduceAdd, Nat.reduceMul, Nat.reduceSub, Nat.reduceBEq, Nat.reduceLT, Nat.reduceLeDiff, Int.cast_ofNat_Int, Int.reduceToNat, Int.reduceLT, Int.reduceLE, Int.reduceGE, Int.reduceGT, Int.reduceEq, Int.reduceNe, Int.reduceAdd, Int.reduceSub, Int.reduceNeg, decide_true, decide_false, Int.toNat_natCast, reduceCtorEq, List.nil_append, List.cons_append, AV.boxy, AV.cells, List.length_cons, List.length_nil, Nat.beq_refl, AOp.cl, ↓OW_guard, ↓DW_guard, KDW_0, KDW_1, KDW_2, OWskip_eq, DWskip_eq, fillA, setAt, DChk, DAt, stepA, ble_dec, beq_dec, Bool.and_self, Bool.and_true, Bool.true_and, Bool.and_false, Bool.false_and, List.take_succ_cons, List.take_zero, List.drop_succ_cons, List.drop_zero, List.take_nil, List.drop_nil, List.append_nil, eqAV, eqAVL, BEq.rfl, eqA, eqD, sameS, Option.map, Option.isNone, addrA, wrap64, gt_iff_lt, ge_iff_le, Int.lt_irrefl, Int.le_refl]
          exact Go.trans ⟨⟨f1, q1⟩, fp1⟩ ⟨⟨_, g5⟩, g6⟩
    · have hn4 : 4 ≤ m := by omega
      have hk : okW s m = false := by simp [okW, h4]
      simp -implicitDefEqProofs only [iv, h0, hn0, h4, hn4, hk, mWait, Bool.false_eq_true, ↓WP_seq, ↓WP_skip, ↓WP_region, ↓WP_dregion, ↓WP_cond, ↓WP_block, ↓WP_exit, ↓WP_ret, ↓OW_nil, ↓OW_cons, ↓DW_nil, ↓DW_cons, ↓XW_call, XW, exA, KO_eq, KD_eq, OptK_some, EvK_some, GW2_true, GW2_false, KS_normal, KS_ret, KS_exit, KB_normal, KB_ret, KB_exit, CP2_bool, RP_ret, RP_normal, putA_some, putA_none, ev_t, ev_c, evs, evo, wantA, initA, resA, Tr.get_set, vl, chkOk, cond_true, cond_false, Nat.add_zero, Nat.mul_one, Nat.one_mul, Nat.zero_add, Nat.zero_mul, aggOf, pInt, binA, unA, intA, beq_true, beq_false, Bool.not_true, Bool.not_false, Bool.not_eq_true, and_self, and_true, true_and, ↓reduceIte, reduceIte, Nat.reduceEqDiff, Nat.succ_ne_self, Nat.reduceAdd, Nat.reduceMul, Nat.reduceSub, Nat.reduceBEq, Nat.reduceLT, Nat.reduceLeDiff, Int.cast_ofNat_Int, Int.reduceToNat, Int.reduceLT, Int.reduceLE, Int.reduceGE, Int.reduceGT, Int.reduceEq, Int.reduceNe, Int.reduceAdd, Int.reduceSub, Int.reduceNeg, decide_true, decide_false, Int.toNat_natCast, reduceCtorEq, List.nil_append, List.cons_append, AV.boxy, AV.cells, List.length_cons, List.length_nil, Nat.beq_refl, AOp.cl, ↓OW_guard, ↓DW_guard, KDW_0, KDW_1, KDW_2, OWskip_eq, DWskip_eq, fillA, setAt, DChk, DAt, stepA, ble_dec, beq_dec, Bool.and_self, Bool.and_true, Bool.true_and, Bool.and_false, Bool.false_and, List.take_succ_cons, List.take_zero, List.drop_succ_cons, List.drop_zero, List.take_nil, List.drop_nil, List.append_nil, eqAV, eqAVL, BEq.rfl, eqA, eqD, sameS, Option.map, Option.isNone, addrA, wrap64, gt_iff_lt, ge_iff_le, Int.lt_irrefl, Int.le_refl]
      exact Go.of h
  · have hn0 : m < 0 := by omega
    have hk : okW s m = false := by simp [okW, h0]
    simp -implicitDefEqProofs only [iv, h0, hn0, hk, mWait, Bool.false_eq_true, ↓WP_seq, ↓WP_skip, ↓WP_region, ↓WP_dregion, ↓WP_cond, ↓WP_block, ↓WP_exit, ↓WP_ret, ↓OW_nil, ↓OW_cons, ↓DW_nil, ↓DW_cons, ↓XW_call, XW, exA, KO_eq, KD_eq, OptK_some, EvK_some, GW2_true, GW2_false, KS_normal, KS_ret, KS_exit, KB_normal, KB_ret, KB_exit, CP2_bool, RP_ret, RP_normal, putA_some, putA_none, ev_t, ev_c, evs, evo, wantA, initA, resA, Tr.get_set, vl, chkOk, cond_true, cond_false, Nat.add_zero, Nat.mul_one, Nat.one_mul, Nat.zero_add, Nat.zero_mul, aggOf, pInt, binA, unA, intA, beq_true, beq_false, Bool.not_true, Bool.not_false, Bool.not_eq_true, and_self, and_true, true_and, ↓reduceIte, reduceIte, Nat.reduceEqDiff, Nat.succ_ne_self, Nat.reduceAdd, Nat.reduceMul, Nat.reduceSub, Nat.reduceBEq, Nat.reduceLT, Nat.reduceLeDiff, Int.cast_ofNat_Int, Int.reduceToNat, Int.reduceLT, Int.reduceLE, Int.reduceGE, Int.reduceGT, Int.reduceEq, Int.reduceNe, Int.reduceAdd, Int.reduceSub, Int.reduceNeg, decide_true, decide_false, Int.toNat_natCast, reduceCtorEq, List.nil_append, List.cons_append, AV.boxy, AV.cells, List.length_cons, List.length_nil, Nat.beq_refl, AOp.cl, ↓OW_guard, ↓DW_guard, KDW_0, KDW_1, KDW_2, OWskip_eq, DWskip_eq, fillA, setAt, DChk, DAt, stepA, ble_dec, beq_dec, Bool.and_self, Bool.and_true, Bool.true_and, Bool.and_false, Bool.false_and, List.take_succ_cons, List.take_zero, List.drop_succ_cons, List.drop_zero, List.take_nil, List.drop_nil, List.append_nil, eqAV, eqAVL, BEq.rfl, eqA, eqD, sameS, Option.map, Option.isNone, addrA, wrap64, gt_iff_lt, ge_iff_le, Int.lt_irrefl, Int.le_refl]
    exact Go.of h
theorem c_rWait (h : QC H b 19 f D (gR s)) (hi : Inv s) (m : Int) : CW M0 64 [.ptr (some (b, 0)), iv m] H fun v H' => v = .bool (okW s m) ∧ Go H H' b 19 D (gR (mWait s m)) := by
  refine CW_of (fn := af64) rfl ?_
  unfold af64
  by_cases h0 : 0 ≤ m
  · have hn0 : ¬ m < 0 := by omega
    by_cases h4 : m < 4
    · have hn4 : ¬ 4 ≤ m := by omega
      obtain ⟨P, rfl⟩ := Int.eq_ofNat_of_zero_le h0
      simp -implicitDefEqProofs only [iv, h0, hn0, h4, hn4, Bool.false_eq_true, ↓WP_seq, ↓WP_skip, ↓WP_region, ↓WP_dregion, ↓WP_cond, ↓WP_block, ↓WP_exit, ↓WP_ret, ↓OW_nil, ↓OW_cons, ↓DW_nil, ↓DW_cons, ↓XW_call, XW, exA, KO_eq, KD_eq, OptK_some, EvK_some, GW2_true, GW2_false, KS_normal, KS_ret, KS_exit, KB_normal, KB_ret, KB_exit, CP2_bool, RP_ret, RP_normal, putA_some, putA_none, ev_t, ev_c, evs, evo, wantA, initA, resA, Tr.get_set, vl, chkOk, cond_true, cond_false, Nat.add_zero, Nat.mul_one, Nat.one_mul, Nat.zero_add, Nat.zero_mul, aggOf, pInt, binA, unA, intA, beq_true, beq_false, Bool.not_true, Bool.not_false, Bool.not_eq_true, and_self, and_true, true_and, ↓reduceIte, reduceIte, Nat.reduceEqDiff, Nat.succ_ne_self, Nat.reduceAdd, Nat.reduceMul, Nat.reduceSub, Nat.reduceBEq, Nat.reduceLT, Nat.reduceLeDiff, Int.cast_ofNat_Int, Int.reduceToNat, Int.reduceLT, Int.reduceLE, Int.reduceGE, Int.reduceGT, Int.reduceEq, Int.reduceNe, Int.reduceAdd, Int.reduceSub, Int.reduceNeg, decide_true, decide_false, Int.toNat_natCast, reduceCtorEq, List.nil_append, List.cons_append, AV.boxy, AV.cells, List.length_cons, List.length_nil, Nat.beq_refl, AOp.cl, ↓OW_guard, ↓DW_guard, KDW_0, KDW_1, KDW_2, OWskip_eq, DWskip_eq, fillA, setAt, DChk, DAt, stepA, ble_dec, beq_dec, Bool.and_self, Bool.and_true, Bool.true_and, Bool.and_false, Bool.false_and, List.take_succ_cons, List.take_zero, List.drop_succ_cons, List.drop_zero, List.take_nil, List.drop_nil, List.append_nil, eqAV, eqAVL, BEq.rfl, eqA, eqD, sameS, Option.map, Option.isNone, addrA, wrap64, gt_iff_lt, ge_iff_le, Int.lt_irrefl, Int.le_refl]
      refine CW.mono (c_top h.qlR) ?_
      rintro v H' ⟨rfl, rfl⟩
      cases hf : fst1 s with
      | none =>
        have hk : okW s (P : Int) = false := by simp [okW, hf]
        rw [fst1_none hf]
        simp -implicitDefEqProofs only [iv, optI, hk, mWait, Bool.false_eq_true, ↓WP_seq, ↓WP_skip, ↓WP_region, ↓WP_dregion, ↓WP_cond, ↓WP_block, ↓WP_exit, ↓WP_ret, ↓OW_nil, ↓OW_cons, ↓DW_nil, ↓DW_cons, ↓XW_call, XW, exA, KO_eq, KD_eq, OptK_some, EvK_some, GW2_true, GW2_false, KS_normal, KS_ret, KS_exit, KB_normal, KB_ret, KB_exit, CP2_bool, RP_ret, RP_normal, putA_some, putA_none, ev_t, ev_c, evs, evo, wantA, initA, resA, Tr.get_set, vl, chkOk, cond_true, cond_false, Nat.add_zero, Nat.mul_one, Nat.one_mul, Nat.zero_add, Nat.zero_mul, aggOf, pInt, binA, unA, intA, beq_true, beq_false, Bool.not_true, Bool.not_false, Bool.not_eq_true, and_self, and_true, true_and, ↓reduceIte, reduceIte, Nat.reduceEqDiff, Nat.succ_ne_self, Nat.reduceAdd, Nat.reduceMul, Nat.reduceSub, Nat.reduceBEq, Nat.reduceLT, Nat.reduceLeDiff, Int.cast_ofNat_Int, Int.reduceToNat, Int.reduceLT, Int.reduceLE, Int.reduceGE, Int.reduceGT, Int.reduceEq, Int.reduceNe, Int.reduceAdd, Int.reduceSub, Int.reduceNeg, decide_true, decide_false, Int.toNat_natCast, reduceCtorEq, List.nil_append, List.cons_append, AV.boxy, AV.cells, List.length_cons, List.length_nil, Nat.beq_refl, AOp.cl, ↓OW_guard, ↓DW_guard, KDW_0, KDW_1, KDW_2, OWskip_eq, DWskip_eq, fillA, setAt, DChk, DAt, stepA, ble_dec, beq_dec, Bool.and_self, Bool.and_true, Bool.true_and, Bool.and_false, Bool.false_and, List.take_succ_cons, List.take_zero, List.drop_succ_cons, List.drop_zero, List.take_nil, List.drop_nil, List.append_nil, eqAV, eqAVL, BEq.rfl, eqA, eqD, sameS, Option.map, Option.isNone, addrA, wrap64, gt_iff_lt, ge_iff_le, Int.lt_irrefl, Int.le_refl]
        exact Go.of h
      | some p =>
        obtain ⟨l, t, ht, hl, e⟩ := fst1_some hf
        have hk : okW s (P : Int) = true := by simp [okW, hf]; omega
        have hnp : ¬ (l : Int) < 0 := by omega
        have l0 := h.load (i := 8 + P) (by omega)
        have f0 : f (8 + P) = .int .i64 (s.c P) := h.sc (by omega) (by rw [gR_C (by omega), gC_c (by omega)]; rfl)
        have hcb := hi.cb P
        rw [ht]
        by_cases hc : 0 < s.c P
        · have hc' : (0 : Int) < s.c P := by omega
          have hw : IntKind.i64.wrap ((s.c P : Int) - 1) = ((s.c P - 1 : Nat) : Int) := by rw [wrap64 (by omega) (by omega)]; omega
          obtain ⟨H1, e1, e2, e3, e4⟩ := h.put (i := 8 + P) (by omega) (v := .int .i64 ((s.c P - 1 : Nat) : Int)) rfl
          have eg : upd (gR s) (8 + P) (.sc (.int .i64 ((s.c P - 1 : Nat) : Int))) = gR (mWait s P) := by
            simp only [mWait, hk, if_true, Int.toNat_natCast, hc]
            exact setc_R (by omega)
          rw [eg] at e3
          simp -implicitDefEqProofs only [iv, optI, hnp, l0, f0, hc', h0, h4, hw, e1, hk, Bool.false_eq_true, ↓WP_seq, ↓WP_skip, ↓WP_region, ↓WP_dregion, ↓WP_cond, ↓WP_block, ↓WP_exit, ↓WP_ret, ↓OW_nil, ↓OW_cons, ↓DW_nil, ↓DW_cons, ↓XW_call, XW, exA, KO_eq, KD_eq, OptK_some, EvK_some, GW2_true, GW2_false, KS_normal, KS_ret, KS_exit, KB_normal, KB_ret, KB_exit, CP2_bool, RP_ret, RP_normal, putA_some, putA_none, ev_t, ev_c, evs, evo, wantA, initA, resA, Tr.get_set, vl, chkOk, cond_true, cond_false, Nat.add_zero, Nat.mul_one, Nat.one_mul, Nat.zero_add, Nat.zero_mul, aggOf, pInt, binA, unA, intA, beq_true, beq_false, Bool.not_true, Bool.not_false, Bool.not_eq_true, and_self, and_true, true_and, ↓reduceIte, reduceIte, Nat.reduceEqDiff, Nat.succ_ne_self, Nat.reduceAdd, Nat.reduceMul, Nat.reduceSub, Nat.reduceBEq, Nat.reduceLT, Nat.reduceLeDiff, Int.cast_ofNat_Int, Int.reduceToNat, Int.reduceLT, Int.reduceLE, Int.reduceGE, Int.reduceGT, Int.reduceEq, Int.reduceNe, Int.reduceAdd, Int.reduceSub, Int.reduceNeg, decide_true, decide_false, Int.toNat_natCast, reduceCtorEq, List.nil_append, List.cons_append, AV.boxy, AV.cells, List.length_cons, List.length_nil, Nat.beq_refl, AOp.cl, ↓OW_guard, ↓DW_guard, KDW_0, KDW_1, KDW_2, OWskip_eq, DWskip_eq, fillA, setAt, DChk, DAt, stepA, ble_dec, beq_dec, Bool.and_self, Bool.and_true, Bool.true_and, Bool.and_false, Bool.false_and, List.take_succ_cons, List.take_zero, List.drop_succ_cons, List.drop_zero, List.take_nil, List.drop_nil, List.append_nil, eqAV, eqAVL, BEq.rfl, eqA, eqD, sameS, Option.map, Option.isNone, addrA, wrap64, gt_iff_lt, ge_iff_le, Int.lt_irrefl, Int.le_refl]
          exact ⟨⟨_, e3⟩, e4⟩
        · have hc' : ¬ (0 : Int) < s.c P := by omega
          have l1 := h.load (i := 4 + P) (by omega)
          simp -implicitDefEqProofs only [iv, optI, hnp, l0, f0, hc', h0, h4, l1, Bool.false_eq_true, ↓WP_seq, ↓WP_skip, ↓WP_region, ↓WP_dregion, ↓WP_cond, ↓WP_block, ↓WP_exit, ↓WP_ret, ↓OW_nil, ↓OW_cons, ↓DW_nil, ↓DW_cons, ↓XW_call, XW, exA, KO_eq, KD_eq, OptK_some, EvK_some, GW2_true, GW2_false, KS_normal, KS_ret, KS_exit, KB_normal, KB_ret, KB_exit, CP2_bool, RP_ret, RP_normal, putA_some, putA_none, ev_t, ev_c, evs, evo, wantA, initA, resA, Tr.get_set, vl, chkOk, cond_true, cond_false, Nat.add_zero, Nat.mul_one, Nat.one_mul, Nat.zero_add, Nat.zero_mul, aggOf, pInt, binA, unA, intA, beq_true, beq_false, Bool.not_true, Bool.not_false, Bool.not_eq_true, and_self, and_true, true_and, ↓reduceIte, reduceIte, Nat.reduceEqDiff, Nat.succ_ne_self, Nat.reduceAdd, Nat.reduceMul, Nat.reduceSub, Nat.reduceBEq, Nat.reduceLT, Nat.reduceLeDiff, Int.cast_ofNat_Int, Int.reduceToNat, Int.reduceLT, Int.reduceLE, Int.reduceGE, Int.reduceGT, Int.reduceEq, Int.reduceNe, Int.reduceAdd, Int.reduceSub, Int.reduceNeg, decide_true, decide_false, Int.toNat_natCast, reduceCtorEq, List.nil_append, List.cons_append, AV.boxy, AV.cells, List.length_cons, List.length_nil, Nat.beq_refl, AOp.cl, ↓OW_guard, ↓DW_guard, KDW_0, KDW_1, KDW_2, OWskip_eq, DWskip_eq, fillA, setAt, DChk, DAt, stepA, ble_dec, beq_dec, Bool.and_self, Bool.and_true, Bool.true_and, Bool.and_false, Bool.false_and, List.take_succ_cons, List.take_zero, List.drop_succ_cons, List.drop_zero, List.take_nil, List.drop_nil, List.append_nil, eqAV, eqAVL, BEq.rfl, eqA, eqD, sameS, Option.map, Option.isNone, addrA, wrap64, gt_iff_lt, ge_iff_le, Int.lt_irrefl, Int.le_refl]
          refine CW.mono (c_out h hi ht e) ?_
          rintro v H1 ⟨rfl, ⟨f1, q1, hf1⟩, fp1⟩
          have hlen := hi.lenr (i := 4 + P) (by omega)
          have hr4 : (tk s).r (4 + P) = s.r (4 + P) := tk_hi s (by omega)
          have hg : gR (tk s) (4 + P) = .sl 1 ((tk s).r (4 + P)).length (nats ((tk s).r (4 + P))) := by rw [gR_C (by omega), gC_r (by omega)]
          obtain ⟨H2, H3, g1, g2, g3, g4, g5, g6⟩ := q1.push (bytes := 8) (i := 4 + P) (by omega) hg (ys := [.int .i64 p]) rfl (by rw [hr4]; omega) (by rw [hr4]; omega)
          have eg : upd (gR (tk s)) (4 + P) (.sl 1 (((tk s).r (4 + P)).length + 1) (nats ((tk s).r (4 + P)) ++ [.int .i64 p])) = gR (mWait s P) := by
            simp only [mWait, hk, if_true, Int.toNat_natCast, hc, if_false, hf]
            exact setr_R (by omega) (by simp) (by simp [nats, iv])
          rw [eg] at g5
          have l2 := q1.load (i := 4 + P) (by omega)
          have l3 := g3 (4 + P) (by omega)
          have qq := (q1.sl (i := 4 + P) (by omega) hg).refl
          have f4 : f1 (4 + P) = f (4 + P) := hf1 _ (by omega)
          rw [f4] at g1 l2 l3 qq
          simp -implicitDefEqProofs only [iv, optI, h0, h4, l1, l2, l3, qq, g1, g2, hk, ↓WP_seq, ↓WP_skip, ↓WP_region, ↓WP_dregion, ↓WP_cond, ↓WP_block, ↓WP_exit, ↓WP_ret, ↓OW_nil, ↓OW_cons, ↓DW_nil, ↓DW_cons, ↓XW_call, XW, exA, KO_eq, KD_eq, OptK_some, EvK_some, GW2_true, GW2_false, KS_normal, KS_ret, KS_exit, KB_normal, KB_ret, KB_exit, CP2_bool, RP_ret, RP_normal, putA_some, putA_none, ev_t, ev_c, evs, evo, wantA, initA, resA, Tr.get_set, vl, chkOk, cond_true, cond_false, Nat.add_zero, Nat.mul_one, Nat.one_mul, Nat.zero_add, Nat.zero_mul, aggOf, pInt, binA, unA, intA, beq_true, beq_false, Bool.not_true, Bool.not_false, Bool.not_eq_true, and_self, and_true, true_and, ↓reduceIte, reduceIte, Nat.reduceEqDiff, Nat.succ_ne_self, Nat.reduceAdd, Nat.reduceMul, Nat.reduceSub, Nat.reduceBEq, Nat.reduceLT, Nat.reduceLeDiff, Int.cast_ofNat_Int, Int.reduceToNat, Int.reduceLT, Int.reduceLE, Int.reduceGE, Int.reduceGT, Int.reduceEq, Int.reduceNe, Int.reduceAdd, Int.reduceSub, Int.reduceNeg, decide_true, decide_false, Int.toNat_natCast, reduceCtorEq, List.nil_append, List.cons_append, AV.boxy, AV.cells, List.length_cons, List.length_nil, Nat.beq_refl, AOp.cl, ↓OW_guard, ↓DW_guard, KDW_0, KDW_1, KDW_2, OWskip_eq, DWskip_eq, fillA, setAt, DChk, DAt, stepA, ble_dec, beq_dec, Bool.and_self, Bool.and_true, Bool.true_and, Bool.and_false, Bool.false_and, List.take_succ_cons, List.take_zero, List.drop_succ_cons, List.drop_zero, List.take_nil, List.drop_nil, List.append_nil, eqAV, eqAVL, BEq.rfl, eqA, eqD, sameS, Option.map, Option.isNone, addrA, wrap64, gt_iff_lt, ge_iff_le, Int.lt_irrefl, Int.le_refl]
          exact Go.trans ⟨⟨f1, q1⟩, fp1⟩ ⟨⟨_, g5⟩, g6⟩
    · have hn4 : 4 ≤ m := by omega
      have hk : okW s m = false := by simp [okW, h4]
      simp -implicitDefEqProofs only [iv, h0, hn0, h4, hn4, hk, mWait, Bool.false_eq_true, ↓WP_seq, ↓WP_skip, ↓WP_region, ↓WP_dregion, ↓WP_cond, ↓WP_block, ↓WP_exit, ↓WP_ret, ↓OW_nil, ↓OW_cons, ↓DW_nil, ↓DW_cons, ↓XW_call, XW, exA, KO_eq, KD_eq, OptK_some, EvK_some, GW2_true, GW2_false, KS_normal, KS_ret, KS_exit, KB_normal, KB_ret, KB_exit, CP2_bool, RP_ret, RP_normal, putA_some, putA_none, ev_t, ev_c, evs, evo, wantA, initA, resA, Tr.get_set, vl, chkOk, cond_true, cond_false, Nat.add_zero, Nat.mul_one, Nat.one_mul, Nat.zero_add, Nat.zero_mul, aggOf, pInt, binA, unA, intA, beq_true, beq_false, Bool.not_true, Bool.not_false, Bool.not_eq_true, and_self, and_true, true_and, ↓reduceIte, reduceIte, Nat.reduceEqDiff, Nat.succ_ne_self, Nat.reduceAdd, Nat.reduceMul, Nat.reduceSub, Nat.reduceBEq, Nat.reduceLT, Nat.reduceLeDiff, Int.cast_ofNat_Int, Int.reduceToNat, Int.reduceLT, Int.reduceLE, Int.reduceGE, Int.reduceGT, Int.reduceEq, Int.reduceNe, Int.reduceAdd, Int.reduceSub, Int.reduceNeg, decide_true, decide_false, Int.toNat_natCast, reduceCtorEq, List.nil_append, List.cons_append, AV.boxy, AV.cells, List.length_cons, List.length_nil, Nat.beq_refl, AOp.cl, ↓OW_guard, ↓DW_guard, KDW_0, KDW_1, KDW_2, OWskip_eq, DWskip_eq, fillA, setAt, DChk, DAt, stepA, ble_dec, beq_dec, Bool.and_self, Bool.and_true, Bool.true_and, Bool.and_false, Bool.false_and, List.take_succ_cons, List.take_zero, List.drop_succ_cons, List.drop_zero, List.take_nil, List.drop_nil, List.append_nil, eqAV, eqAVL, BEq.rfl, eqA, eqD, sameS, Option.map, Option.isNone, addrA, wrap64, gt_iff_lt, ge_iff_le, Int.lt_irrefl, Int.le_refl]
      exact Go.of h
  · have hn0 : m < 0 := by omega
    have hk : okW s m = false := by simp [okW, h0]
    simp -implicitDefEqProofs only [iv, h0, hn0, hk, mWait, Bool.false_eq_true, ↓WP_seq, ↓WP_skip, ↓WP_region, ↓WP_dregion, ↓WP_cond, ↓WP_block, ↓WP_exit, ↓WP_ret, ↓OW_nil, ↓OW_cons, ↓DW_nil, ↓DW_cons, ↓XW_call, XW, exA, KO_eq, KD_eq, OptK_some, EvK_some, GW2_true, GW2_false, KS_normal, KS_ret, KS_exit, KB_normal, KB_ret, KB_exit, CP2_bool, RP_ret, RP_normal, putA_some, putA_none, ev_t, ev_c, evs, evo, wantA, initA, resA, Tr.get_set, vl, chkOk, cond_true, cond_false, Nat.add_zero, Nat.mul_one, Nat.one_mul, Nat.zero_add, Nat.zero_mul, aggOf, pInt, binA, unA, intA, beq_true, beq_false, Bool.not_true, Bool.not_false, Bool.not_eq_true, and_self, and_true, true_and, ↓reduceIte, reduceIte, Nat.reduceEqDiff, Nat.succ_ne_self, Nat.reduceAdd, Nat.reduceMul, Nat.reduceSub, Nat.reduceBEq, Nat.reduceLT, Nat.reduceLeDiff, Int.cast_ofNat_Int, Int.reduceToNat, Int.reduceLT, Int.reduceLE, Int.reduceGE, Int.reduceGT, Int.reduceEq, Int.reduceNe, Int.reduceAdd, Int.reduceSub, Int.reduceNeg, decide_true, decide_false, Int.toNat_natCast, reduceCtorEq, List.nil_append, List.cons_append, AV.boxy, AV.cells, List.length_cons, List.length_nil, Nat.beq_refl, AOp.cl, ↓OW_guard, ↓DW_guard, KDW_0, KDW_1, KDW_2, OWskip_eq, DWskip_eq, fillA, setAt, DChk, DAt, stepA, ble_dec, beq_dec, Bool.and_self, Bool.and_true, Bool.true_and, Bool.and_false, Bool.false_and, List.take_succ_cons, List.take_zero, List.drop_succ_cons, List.drop_zero, List.take_nil, List.drop_nil, List.append_nil, eqAV, eqAVL, BEq.rfl, eqA, eqD, sameS, Option.map, Option.isNone, addrA, wrap64, gt_iff_lt, ge_iff_le, Int.lt_irrefl, Int.le_refl]
    exact Go.of h
end
end Go.Proofs.Ytldlolpbnfgdeaa.AA
namespace Go.Proofs.Ytldlolpbnfgdeaa.AA
open Go Go.RowKit
set_option maxRecDepth 100000
set_option maxHeartbeats 1000000
section
variable {H : AHeap} {b n : Nat} {f : Nat → AV} {D : Nat → Prop} {g : Nat → SV} {s : QS}
theorem Inv.lvm {s : QS} (hi : Inv s) {i p : Nat} (hi8 : i < 8) (hp : p ∈ s.r i) : s.inn p = true ∧ p < 6 ∧ s.lv p < 4 := ⟨hi.memr hi8 hp, hi.inn p (hi.memr hi8 hp), hi.lv4 p⟩
theorem c_Post (h : QC H b 25 f D (gP s)) (hi : Inv s) (m : Int) : CW M0 35 [.ptr (some (b, 0)), iv m] H fun v H' => v = iv (vPost s m) ∧ Go H H' b 25 D (gP (mPost s m)) := by
  refine CW_of (fn := af35) rfl ?_
  unfold af35
  by_cases h0 : 0 ≤ m
  · have hn0 : ¬ m < 0 := by omega
    by_cases h4 : m < 4
    · have hn4 : ¬ 4 ≤ m := by omega
      obtain ⟨P, rfl⟩ := Int.eq_ofNat_of_zero_le h0
      have hb : (0 : Int) ≤ P ∧ (P : Int) < 4 := ⟨h0, h4⟩
      have l1 := h.load (i := 4 + P) (by omega)
      cases e : s.r (4 + P) with
      | nil =>
        obtain ⟨a, s0, k, fx⟩ := h.qlP.nil (i := 4 + P) (by omega) e
        have l0 := h.load (i := 8 + P) (by omega)
        have f0 : f (8 + P) = .int .i64 (s.c P) := h.sc (by omega) (by rw [gP_C (by omega), gC_c (by omega)]; rfl)
        have hcb := hi.cb P
        have hw : IntKind.i64.wrap ((s.c P : Int) + 1) = (s.c P : Int) + 1 := wrap64 (by omega) (by omega)
        have hm : (if (1048576 : Int) < (s.c P : Int) + 1 then (1048576 : Int) else (s.c P : Int) + 1) = ((min (s.c P + 1) 1048576 : Nat) : Int) := by
          split <;> omega
        obtain ⟨H1, e1, e2, e3, e4⟩ := h.put (i := 8 + P) (by omega) (v := .int .i64 ((min (s.c P + 1) 1048576 : Nat) : Int)) rfl
        have eg : upd (gP s) (8 + P) (.sc (.int .i64 ((min (s.c P + 1) 1048576 : Nat) : Int))) = gP (mPost s P) := by
          simp only [mPost, if_pos hb, Int.toNat_natCast, e]
          exact setc_P (by omega)
        rw [eg] at e3
        have ev : vPost s P = -1 := by simp only [vPost, if_pos hb, Int.toNat_natCast, e]; rfl
        simp -implicitDefEqProofs only [iv, h0, hn0, h4, hn4, l0, l1, fx, f0, hw, hm, e1, ev, mnL, mnA, Bool.false_eq_true, ↓WP_seq, ↓WP_skip, ↓WP_region, ↓WP_dregion, ↓WP_cond, ↓WP_block, ↓WP_exit, ↓WP_ret, ↓OW_nil, ↓OW_cons, ↓DW_nil, ↓DW_cons, ↓XW_call, XW, exA, KO_eq, KD_eq, OptK_some, EvK_some, GW2_true, GW2_false, KS_normal, KS_ret, KS_exit, KB_normal, KB_ret, KB_exit, CP2_bool, RP_ret, RP_normal, putA_some, putA_none, ev_t, ev_c, evs, evo, wantA, initA, resA, Tr.get_set, vl, chkOk, cond_true, cond_false, Nat.add_zero, Nat.mul_one, Nat.one_mul, Nat.zero_add, Nat.zero_mul, aggOf, pInt, binA, unA, intA, beq_true, beq_false, Bool.not_true, Bool.not_false, Bool.not_eq_true, and_self, and_true, true_and, ↓reduceIte, reduceIte, Nat.reduceEqDiff, Nat.succ_ne_self, Nat.reduceAdd, Nat.reduceMul, Nat.reduceSub, Nat.reduceBEq, Nat.reduceLT, Nat.reduceLeDiff, Int.cast_ofNat_Int, Int.reduceToNat, Int.reduceLT, Int.reduceLE, Int.reduceGE, Int.reduceGT, Int.reduceEq, Int.reduceNe, Int.reduceAdd, Int.reduceSub, Int.reduceNeg, decide_true, decide_false, Int.toNat_natCast, reduceCtorEq, List.nil_append, List.cons_append, AV.boxy, AV.cells, List.length_cons, List.length_nil, Nat.beq_refl, AOp.cl, ↓OW_guard, ↓DW_guard, KDW_0, KDW_1, KDW_2, OWskip_eq, DWskip_eq, fillA, setAt, DChk, DAt, stepA, ble_dec, beq_dec, Bool.and_self, Bool.and_true, Bool.true_and, Bool.and_false, Bool.false_and, List.take_succ_cons, List.take_zero, List.drop_succ_cons, List.drop_zero, List.take_nil, List.drop_nil, List.append_nil, eqAV, eqAVL, BEq.rfl, eqA, eqD, sameS, Option.map, Option.isNone, addrA, wrap64, gt_iff_lt, ge_iff_le, Int.lt_irrefl, Int.le_refl]
        exact ⟨⟨_, e3⟩, e4⟩
      | cons p t =>
        have hlen := hi.lenr (i := 4 + P) (by omega)
        obtain ⟨hin, hp6, hl4⟩ := hi.lvm (i := 4 + P) (p := p) (by omega) (by rw [e]; exact List.mem_cons_self ..)
        have hll := hi.lenr (i := s.lv p) (by omega)
        have hs := h.qlP.r (i := 4 + P) (by omega)
        rw [e] at hs hlen
        obtain ⟨x, o, cl, fx, hr⟩ : ∃ x o cl, f (4 + P) = .slice (some (x, o)) 1 (t.length + 1) cl ∧ Rd H x o (nats (p :: t)) := by
          rcases hs with ⟨-, e', -⟩ | ⟨x, o, cl, h1, -, -, h2, -⟩
          · cases e'
          · exact ⟨x, o, cl, h1, h2⟩
        have lx : loadA H x o 1 = some [.int .i64 p] := hr.one (j := 0) rfl
        have ht1 : ((1 : Int) ≤ ((t.length + 1 : Nat) : Int)) = True := by simp; omega
        have ht2 : ((0 : Int) < ((t.length + 1 : Nat) : Int)) = True := by simp
        have ht3 : (((t.length + 1 : Nat) : Int) == 0) = false := by simp; omega
        have ev : vPost s P = p := by simp only [vPost, if_pos hb, Int.toNat_natCast, e]; rfl
        simp -implicitDefEqProofs only [iv, h0, hn0, h4, hn4, l1, fx, lx, ht1, ht2, ht3, slA, boundA, Option.isSome, Option.isNone, Nat.add_sub_cancel, Bool.false_eq_true, ↓WP_seq, ↓WP_skip, ↓WP_region, ↓WP_dregion, ↓WP_cond, ↓WP_block, ↓WP_exit, ↓WP_ret, ↓OW_nil, ↓OW_cons, ↓DW_nil, ↓DW_cons, ↓XW_call, XW, exA, KO_eq, KD_eq, OptK_some, EvK_some, GW2_true, GW2_false, KS_normal, KS_ret, KS_exit, KB_normal, KB_ret, KB_exit, CP2_bool, RP_ret, RP_normal, putA_some, putA_none, ev_t, ev_c, evs, evo, wantA, initA, resA, Tr.get_set, vl, chkOk, cond_true, cond_false, Nat.add_zero, Nat.mul_one, Nat.one_mul, Nat.zero_add, Nat.zero_mul, aggOf, pInt, binA, unA, intA, beq_true, beq_false, Bool.not_true, Bool.not_false, Bool.not_eq_true, and_self, and_true, true_and, ↓reduceIte, reduceIte, Nat.reduceEqDiff, Nat.succ_ne_self, Nat.reduceAdd, Nat.reduceMul, Nat.reduceSub, Nat.reduceBEq, Nat.reduceLT, Nat.reduceLeDiff, Int.cast_ofNat_Int, Int.reduceToNat, Int.reduceLT, Int.reduceLE, Int.reduceGE, Int.reduceGT, Int.reduceEq, Int.reduceNe, Int.reduceAdd, Int.reduceSub, Int.reduceNeg, decide_true, decide_false, Int.toNat_natCast, reduceCtorEq, List.nil_append, List.cons_append, AV.boxy, AV.cells, List.length_cons, List.length_nil, Nat.beq_refl, AOp.cl, ↓OW_guard, ↓DW_guard, KDW_0, KDW_1, KDW_2, OWskip_eq, DWskip_eq, fillA, setAt, DChk, DAt, stepA, ble_dec, beq_dec, Bool.and_self, Bool.and_true, Bool.true_and, Bool.and_false, Bool.false_and, List.take_succ_cons, List.take_zero, List.drop_succ_cons, List.drop_zero, List.take_nil, List.drop_nil, List.append_nil, eqAV, eqAVL, BEq.rfl, eqA, eqD, sameS, Option.map, Option.isNone, addrA, wrap64, gt_iff_lt, ge_iff_le, Int.lt_irrefl, Int.le_refl]
        refine CW.mono (c_Clone (cl := cl) hr.tail (m := t.length) (by simp) (by simp at hlen; omega)) ?_
        rintro v H2 ⟨hch, hsl, hub⟩
        obtain ⟨H3, e1, e2, e3, e4⟩ := h.store (i := 4 + P) (by omega) hch (.inl rfl) (x := .sl 1 t.length (nats t)) (v' := v) (Sl.mono hsl fun y hy => .inr hy) (fun y hy => .inl (hub y hy))
        obtain ⟨a, s0, k, rfl⟩ := hsl.form
        have eg : upd (gP s) (4 + P) (.sl 1 t.length (nats t)) = gP (s.setr (4 + P) t) := setr_P (by omega) rfl rfl
        rw [eg] at e3
        have l2 := h.chg hch (by simp) (j := 4 + P) (by omega)
        simp -implicitDefEqProofs only [iv, h0, hn0, h4, hn4, l1, l2, fx, e1, slA, boundA, ht1, Option.isSome, Option.isNone, Nat.add_sub_cancel, Bool.false_eq_true, ↓WP_seq, ↓WP_skip, ↓WP_region, ↓WP_dregion, ↓WP_cond, ↓WP_block, ↓WP_exit, ↓WP_ret, ↓OW_nil, ↓OW_cons, ↓DW_nil, ↓DW_cons, ↓XW_call, XW, exA, KO_eq, KD_eq, OptK_some, EvK_some, GW2_true, GW2_false, KS_normal, KS_ret, KS_exit, KB_normal, KB_ret, KB_exit, CP2_bool, RP_ret, RP_normal, putA_some, putA_none, ev_t, ev_c, evs, evo, wantA, initA, resA, Tr.get_set, vl, chkOk, cond_true, cond_false, Nat.add_zero, Nat.mul_one, Nat.one_mul, Nat.zero_add, Nat.zero_mul, aggOf, pInt, binA, unA, intA, beq_true, beq_false, Bool.not_true, Bool.not_false, Bool.not_eq_true, and_self, and_true, true_and, ↓reduceIte, reduceIte, Nat.reduceEqDiff, Nat.succ_ne_self, Nat.reduceAdd, Nat.reduceMul, Nat.reduceSub, Nat.reduceBEq, Nat.reduceLT, Nat.reduceLeDiff, Int.cast_ofNat_Int, Int.reduceToNat, Int.reduceLT, Int.reduceLE, Int.reduceGE, Int.reduceGT, Int.reduceEq, Int.reduceNe, Int.reduceAdd, Int.reduceSub, Int.reduceNeg, decide_true, decide_false, Int.toNat_natCast, reduceCtorEq, List.nil_append, List.cons_append, AV.boxy, AV.cells, List.length_cons, List.length_nil, Nat.beq_refl, AOp.cl, ↓OW_guard, ↓DW_guard, KDW_0, KDW_1, KDW_2, OWskip_eq, DWskip_eq, fillA, setAt, DChk, DAt, stepA, ble_dec, beq_dec, Bool.and_self, Bool.and_true, Bool.true_and, Bool.and_false, Bool.false_and, List.take_succ_cons, List.take_zero, List.drop_succ_cons, List.drop_zero, List.take_nil, List.drop_nil, List.append_nil, eqAV, eqAVL, BEq.rfl, eqA, eqD, sameS, Option.map, Option.isNone, addrA, wrap64, gt_iff_lt, ge_iff_le, Int.lt_irrefl, Int.le_refl]
        refine CW.mono (c_last' e3 (p := p) (l := s.lv p) hp6 rfl hl4 (by simp only [QS.setr]; rw [upd_ne (by omega)]; omega)) ?_
        intro v H4 g2
        simp -implicitDefEqProofs only [ev, ↓WP_seq, ↓WP_skip, ↓WP_region, ↓WP_dregion, ↓WP_cond, ↓WP_block, ↓WP_exit, ↓WP_ret, ↓OW_nil, ↓OW_cons, ↓DW_nil, ↓DW_cons, ↓XW_call, XW, exA, KO_eq, KD_eq, OptK_some, EvK_some, GW2_true, GW2_false, KS_normal, KS_ret, KS_exit, KB_normal, KB_ret, KB_exit, CP2_bool, RP_ret, RP_normal, putA_some, putA_none, ev_t, ev_c, evs, evo, wantA, initA, resA, Tr.get_set, vl, chkOk, cond_true, cond_false, Nat.add_zero, Nat.mul_one, Nat.one_mul, Nat.zero_add, Nat.zero_mul, aggOf, pInt, binA, unA, intA, beq_true, beq_false, Bool.not_true, Bool.not_false, Bool.not_eq_true, and_self, and_true, true_and, ↓reduceIte, reduceIte, Nat.reduceEqDiff, Nat.succ_ne_self, Nat.reduceAdd, Nat.reduceMul, Nat.reduceSub, Nat.reduceBEq, Nat.reduceLT, Nat.reduceLeDiff, Int.cast_ofNat_Int, Int.reduceToNat, Int.reduceLT, Int.reduceLE, Int.reduceGE, Int.reduceGT, Int.reduceEq, Int.reduceNe, Int.reduceAdd, Int.reduceSub, Int.reduceNeg, decide_true, decide_false, Int.toNat_natCast, reduceCtorEq, List.nil_append, List.cons_append, AV.boxy, AV.cells, List.length_cons, List.length_nil, Nat.beq_refl, AOp.cl, ↓OW_guard, ↓DW_guard, KDW_0, KDW_1, KDW_2, OWskip_eq, DWskip_eq, fillA, setAt, DChk, DAt, stepA, ble_dec, beq_dec, Bool.and_self, Bool.and_true, Bool.true_and, Bool.and_false, Bool.false_and, List.take_succ_cons, List.take_zero, List.drop_succ_cons, List.drop_zero, List.take_nil, List.drop_nil, List.append_nil, eqAV, eqAVL, BEq.rfl, eqA, eqD, sameS, Option.map, Option.isNone, addrA, wrap64, gt_iff_lt, ge_iff_le, Int.lt_irrefl, Int.le_refl]
        refine Go.trans ⟨⟨_, e3⟩, e4⟩ ?_
        simp only [mPost, if_pos hb, Int.toNat_natCast, e]
        exact g2
    · have hn4 : 4 ≤ m := by omega
      have ev : vPost s m = -1 := by simp [vPost, h4]
      have em : mPost s m = s := by simp [mPost, h4]
      simp -implicitDefEqProofs only [iv, h0, hn0, h4, hn4, ev, em, Bool.false_eq_true, ↓WP_seq, ↓WP_skip, ↓WP_region, ↓WP_dregion, ↓WP_cond, ↓WP_block, ↓WP_exit, ↓WP_ret, ↓OW_nil, ↓OW_cons, ↓DW_nil, ↓DW_cons, ↓XW_call, XW, exA, KO_eq, KD_eq, OptK_some, EvK_some, GW2_true, GW2_false, KS_normal, KS_ret, KS_exit, KB_normal, KB_ret, KB_exit, CP2_bool, RP_ret, RP_normal, putA_some, putA_none, ev_t, ev_c, evs, evo, wantA, initA, resA, Tr.get_set, vl, chkOk, cond_true, cond_false, Nat.add_zero, Nat.mul_one, Nat.one_mul, Nat.zero_add, Nat.zero_mul, aggOf, pInt, binA, unA, intA, beq_true, beq_false, Bool.not_true, Bool.not_false, Bool.not_eq_true, and_self, and_true, true_and, ↓reduceIte, reduceIte, Nat.reduceEqDiff, Nat.succ_ne_self, Nat.reduceAdd, Nat.reduceMul, Nat.reduceSub, Nat.reduceBEq, Nat.reduceLT, Nat.reduceLeDiff, Int.cast_ofNat_Int, Int.reduceToNat, Int.reduceLT, Int.reduceLE, Int.reduceGE, Int.reduceGT, Int.reduceEq, Int.reduceNe, Int.reduceAdd, Int.reduceSub, Int.reduceNeg, decide_true, decide_false, Int.toNat_natCast, reduceCtorEq, List.nil_append, List.cons_append, AV.boxy, AV.cells, List.length_cons, List.length_nil, Nat.beq_refl, AOp.cl, ↓OW_guard, ↓DW_guard, KDW_0, KDW_1, KDW_2, OWskip_eq, DWskip_eq, fillA, setAt, DChk, DAt, stepA, ble_dec, beq_dec, Bool.and_self, Bool.and_true, Bool.true_and, Bool.and_false, Bool.false_and, List.take_succ_cons, List.take_zero, List.drop_succ_cons, List.drop_zero, List.take_nil, List.drop_nil, List.append_nil, eqAV, eqAVL, BEq.rfl, eqA, eqD, sameS, Option.map, Option.isNone, addrA, wrap64, gt_iff_lt, ge_iff_le, Int.lt_irrefl, Int.le_refl]
      exact Go.of h
  · have hn0 : m < 0 := by omega
    have ev : vPost s m = -1 := by simp [vPost, h0]
    have em : mPost s m = s := by simp [mPost, h0]
    simp -implicitDefEqProofs only [iv, h0, hn0, ev, em, Bool.false_eq_true, ↓WP_seq, ↓WP_skip, ↓WP_region, ↓WP_dregion, ↓WP_cond, ↓WP_block, ↓WP_exit, ↓WP_ret, ↓OW_nil, ↓OW_cons, ↓DW_nil, ↓DW_cons, ↓XW_call, XW, exA, KO_eq, KD_eq, OptK_some, EvK_some, GW2_true, GW2_false, KS_normal, KS_ret, KS_exit, KB_normal, KB_ret, KB_exit, CP2_bool, RP_ret, RP_normal, putA_some, putA_none, ev_t, ev_c, evs, evo, wantA, initA, resA, Tr.get_set, vl, chkOk, cond_true, cond_false, Nat.add_zero, Nat.mul_one, Nat.one_mul, Nat.zero_add, Nat.zero_mul, aggOf, pInt, binA, unA, intA, beq_true, beq_false, Bool.not_true, Bool.not_false, Bool.not_eq_true, and_self, and_true, true_and, ↓reduceIte, reduceIte, Nat.reduceEqDiff, Nat.succ_ne_self, Nat.reduceAdd, Nat.reduceMul, Nat.reduceSub, Nat.reduceBEq, Nat.reduceLT, Nat.reduceLeDiff, Int.cast_ofNat_Int, Int.reduceToNat, Int.reduceLT, Int.reduceLE, Int.reduceGE, Int.reduceGT, Int.reduceEq, Int.reduceNe, Int.reduceAdd, Int.reduceSub, Int.reduceNeg, decide_true, decide_false, Int.toNat_natCast, reduceCtorEq, List.nil_append, List.cons_append, AV.boxy, AV.cells, List.length_cons, List.length_nil, Nat.beq_refl, AOp.cl, ↓OW_guard, ↓DW_guard, KDW_0, KDW_1, KDW_2, OWskip_eq, DWskip_eq, fillA, setAt, DChk, DAt, stepA, ble_dec, beq_dec, Bool.and_self, Bool.and_true, Bool.true_and, Bool.and_false, Bool.false_and, List.take_succ_cons, List.take_zero, List.drop_succ_cons, List.drop_zero, List.take_nil, List.drop_nil, List.append_nil, eqAV, eqAVL, BEq.rfl, eqA, eqD, sameS, Option.map, Option.isNone, addrA, wrap64, gt_iff_lt, ge_iff_le, Int.lt_irrefl, Int.le_refl]
    exact Go.of h
/-- An empty row, and the cells of a slice behind it. -/
theorem clone_row {x o m : Nat} {cl : Bool} {cs : List AV} (hr : Rd H x o cs) (hm : cs.length = m) (hb : m < 1000) : ∃ v H2, appendF (H.newRow []) 1 8 false (.slice (some (H.next, 0)) 1 0 true) (.slice (some (x, o)) 1 m cl) = some (v, H2) ∧ Chg H H2 none ∧ Sl H2 (fun y => H.next ≤ y ∧ y < H2.next) 1 v m cs ∧ ∀ y, ub v = some y → H.next ≤ y := by
  have c1 := Chg.newRow H []
  have s1 : Sl (H.newRow []) (fun y => H.next ≤ y ∧ y < H.next + 1) 1 (.slice (some (H.next, 0)) 1 0 true) 0 [] := .inr ⟨H.next, 0, true, rfl, ⟨Nat.le_refl _, by omega⟩, rfl, Rd.newRow H [], by simp⟩
  have hsrc : srcA (H.newRow []) 1 false (.slice (some (x, o)) 1 m cl) = some (cs, m) := srcA_slice (hr.keep c1.1 (c1.keep hr.1 (by simp))) (by omega)
  by_cases h0 : m = 0
  · subst h0
    obtain rfl : cs = [] := by simpa using hm
    exact ⟨_, _, s1.append0 (bytes := 8) hsrc, c1, s1, by intro y hy; simp [ub] at hy⟩
  · obtain ⟨H2, e1, e2, e3, e4⟩ := s1.append (bytes := 8) hsrc (by omega) h0 (by omega) (by omega)
    have en : (H.newRow []).next = H.next + 1 := rfl
    refine ⟨_, H2, e1, c1.trans e3, ?_, fun y hy => ?_⟩
    · rw [en, Nat.zero_add] at e4 ⊢
      exact Sl.mono e4 fun y hy => by subst hy; rw [e2, en]; omega
    · obtain rfl : H.next + 1 = y := Option.some.inj hy
      omega
theorem c_rPost (h : QC H b 19 f D (gR s)) (hi : Inv s) (m : Int) : CW M0 65 [.ptr (some (b, 0)), iv m] H fun v H' => v = iv (vPost s m) ∧ Go H H' b 19 D (gR (mPost s m)) := by
  refine CW_of (fn := af65) rfl ?_
  unfold af65
  by_cases h0 : 0 ≤ m
  · have hn0 : ¬ m < 0 := by omega
    by_cases h4 : m < 4
    · have hn4 : ¬ 4 ≤ m := by omega
      obtain ⟨P, rfl⟩ := Int.eq_ofNat_of_zero_le h0
      have hb : (0 : Int) ≤ P ∧ (P : Int) < 4 := ⟨h0, h4⟩
      have l1 := h.load (i := 4 + P) (by omega)
      cases e : s.r (4 + P) with
      | nil =>
        obtain ⟨a, s0, k, fx⟩ := h.qlR.nil (i := 4 + P) (by omega) e
        have l0 := h.load (i := 8 + P) (by omega)
        have f0 : f (8 + P) = .int .i64 (s.c P) := h.sc (by omega) (by rw [gR_C (by omega), gC_c (by omega)]; rfl)
        have hcb := hi.cb P
        have hw : IntKind.i64.wrap ((s.c P : Int) + 1) = (s.c P : Int) + 1 := wrap64 (by omega) (by omega)
        have hm : (if (1048576 : Int) < (s.c P : Int) + 1 then (1048576 : Int) else (s.c P : Int) + 1) = ((min (s.c P + 1) 1048576 : Nat) : Int) := by
          split <;> omega
        obtain ⟨H1, e1, e2, e3, e4⟩ := h.put (i := 8 + P) (by omega) (v := .int .i64 ((min (s.c P + 1) 1048576 : Nat) : Int)) rfl
        have eg : upd (gR s) (8 + P) (.sc (.int .i64 ((min (s.c P + 1) 1048576 : Nat) : Int))) = gR (mPost s P) := by
          simp only [mPost, if_pos hb, Int.toNat_natCast, e]
          exact setc_R (by omega)
        rw [eg] at e3
        have ev : vPost s P = -1 := by simp only [vPost, if_pos hb, Int.toNat_natCast, e]; rfl
        simp -implicitDefEqProofs only [iv, h0, hn0, h4, hn4, l0, l1, fx, f0, hw, hm, e1, ev, mnL, mnA, Bool.false_eq_true, ↓WP_seq, ↓WP_skip, ↓WP_region, ↓WP_dregion, ↓WP_cond, ↓WP_block, ↓WP_exit, ↓WP_ret, ↓OW_nil, ↓OW_cons, ↓DW_nil, ↓DW_cons, ↓XW_call, XW, exA, KO_eq, KD_eq, OptK_some, EvK_some, GW2_true, GW2_false, KS_normal, KS_ret, KS_exit, KB_normal, KB_ret, KB_exit, CP2_bool, RP_ret, RP_normal, putA_some, putA_none, ev_t, ev_c, evs, evo, wantA, initA, resA, Tr.get_set, vl, chkOk, cond_true, cond_false, Nat.add_zero, Nat.mul_one, Nat.one_mul, Nat.zero_add, Nat.zero_mul, aggOf, pInt, binA, unA, intA, beq_true, beq_false, Bool.not_true, Bool.not_false, Bool.not_eq_true, and_self, and_true, true_and, ↓reduceIte, reduceIte, Nat.reduceEqDiff, Nat.succ_ne_self, Nat.reduceAdd, Nat.reduceMul, Nat.reduceSub, Nat.reduceBEq, Nat.reduceLT, Nat.reduceLeDiff, Int.cast_ofNat_Int, Int.reduceToNat, Int.reduceLT, Int.reduceLE, Int.reduceGE, Int.reduceGT, Int.reduceEq, Int.reduceNe, Int.reduceAdd, Int.reduceSub, Int.reduceNeg, decide_true, decide_false, Int.toNat_natCast, reduceCtorEq, List.nil_append, List.cons_append, AV.boxy, AV.cells, List.length_cons, List.length_nil, Nat.beq_refl, AOp.cl, ↓OW_guard, ↓DW_guard, KDW_0, KDW_1, KDW_2, OWskip_eq, DWskip_eq, fillA, setAt, DChk, DAt, stepA, ble_dec, beq_dec, Bool.and_self, Bool.and_true, Bool.true_and, Bool.and_false, Bool.false_and, List.take_succ_cons, List.take_zero, List.drop_succ_cons, List.drop_zero, List.take_nil, List.drop_nil, List.append_nil, eqAV, eqAVL, BEq.rfl, eqA, eqD, sameS, Option.map, Option.isNone, addrA, wrap64, gt_iff_lt, ge_iff_le, Int.lt_irrefl, Int.le_refl]
        exact ⟨⟨_, e3⟩, e4⟩
      | cons p t =>
        have hlen := hi.lenr (i := 4 + P) (by omega)
        obtain ⟨hin, hp6, hl4⟩ := hi.lvm (i := 4 + P) (p := p) (by omega) (by rw [e]; exact List.mem_cons_self ..)
        have hll := hi.lenr (i := s.lv p) (by omega)
        have hs := h.qlR.r (i := 4 + P) (by omega)
        rw [e] at hs hlen
        obtain ⟨x, o, cl, fx, hr⟩ : ∃ x o cl, f (4 + P) = .slice (some (x, o)) 1 (t.length + 1) cl ∧ Rd H x o (nats (p :: t)) := by
          rcases hs with ⟨-, e', -⟩ | ⟨x, o, cl, h1, -, -, h2, -⟩
          · cases e'
          · exact ⟨x, o, cl, h1, h2⟩
        have lx : loadA H x o 1 = some [.int .i64 p] := hr.one (j := 0) rfl
        have ht1 : ((1 : Int) ≤ ((t.length + 1 : Nat) : Int)) = True := by simp; omega
        have ht2 : ((0 : Int) < ((t.length + 1 : Nat) : Int)) = True := by simp
        have ht3 : (((t.length + 1 : Nat) : Int) == 0) = false := by simp; omega
        have ev : vPost s P = p := by simp only [vPost, if_pos hb, Int.toNat_natCast, e]; rfl
        obtain ⟨v, H2, ea, hch, hsl, hub⟩ := clone_row (cl := cl) hr.tail (m := t.length) (by simp) (by simp at hlen; omega)
        obtain ⟨H3, e1, e2, e3, e4⟩ := h.store (i := 4 + P) (by omega) hch (.inl rfl) (x := .sl 1 t.length (nats t)) (v' := v) (Sl.mono hsl fun y hy => .inr hy) (fun y hy => .inl (hub y hy))
        obtain ⟨a, s0, k, rfl⟩ := hsl.form
        have eg : upd (gR s) (4 + P) (.sl 1 t.length (nats t)) = gR (s.setr (4 + P) t) := setr_R (by omega) rfl rfl
        rw [eg] at e3
        have l2 := h.chg (Chg.newRow H []) (by simp) (j := 4 + P) (by omega)
        simp -implicitDefEqProofs only [iv, h0, hn0, h4, hn4, l1, l2, fx, lx, ea, e1, ht1, ht2, ht3, slA, boundA, Option.isSome, Option.isNone, Nat.add_sub_cancel, Bool.false_eq_true, ↓WP_seq, ↓WP_skip, ↓WP_region, ↓WP_dregion, ↓WP_cond, ↓WP_block, ↓WP_exit, ↓WP_ret, ↓OW_nil, ↓OW_cons, ↓DW_nil, ↓DW_cons, ↓XW_call, XW, exA, KO_eq, KD_eq, OptK_some, EvK_some, GW2_true, GW2_false, KS_normal, KS_ret, KS_exit, KB_normal, KB_ret, KB_exit, CP2_bool, RP_ret, RP_normal, putA_some, putA_none, ev_t, ev_c, evs, evo, wantA, initA, resA, Tr.get_set, vl, chkOk, cond_true, cond_false, Nat.add_zero, Nat.mul_one, Nat.one_mul, Nat.zero_add, Nat.zero_mul, aggOf, pInt, binA, unA, intA, beq_true, beq_false, Bool.not_true, Bool.not_false, Bool.not_eq_true, and_self, and_true, true_and, ↓reduceIte, reduceIte, Nat.reduceEqDiff, Nat.succ_ne_self, Nat.reduceAdd, Nat.reduceMul, Nat.reduceSub, Nat.reduceBEq, Nat.reduceLT, Nat.reduceLeDiff, Int.cast_ofNat_Int, Int.reduceToNat, Int.reduceLT, Int.reduceLE, Int.reduceGE, Int.reduceGT, Int.reduceEq, Int.reduceNe, Int.reduceAdd, Int.reduceSub, Int.reduceNeg, decide_true, decide_false, Int.toNat_natCast, reduceCtorEq, List.nil_append, List.cons_append, AV.boxy, AV.cells, List.length_cons, List.length_nil, Nat.beq_refl, AOp.cl, ↓OW_guard, ↓DW_guard, KDW_0, KDW_1, KDW_2, OWskip_eq, DWskip_eq, fillA, setAt, DChk, DAt, stepA, ble_dec, beq_dec, Bool.and_self, Bool.and_true, Bool.true_and, Bool.and_false, Bool.false_and, List.take_succ_cons, List.take_zero, List.drop_succ_cons, List.drop_zero, List.take_nil, List.drop_nil, List.append_nil, eqAV, eqAVL, BEq.rfl, eqA, eqD, sameS, Option.map, Option.isNone, addrA, wrap64, gt_iff_lt, ge_iff_le, Int.lt_irrefl, Int.le_refl]
        refine CW.mono (c_back e3 (p := p) (l := s.lv p) hp6 hin rfl hl4 (by simp only [QS.setr]; rw [upd_ne (by omega)]; omega)) ?_
        intro v H4 g2
        simp -implicitDefEqProofs only [ev, ↓WP_seq, ↓WP_skip, ↓WP_region, ↓WP_dregion, ↓WP_cond, ↓WP_block, ↓WP_exit, ↓WP_ret, ↓OW_nil, ↓OW_cons, ↓DW_nil, ↓DW_cons, ↓XW_call, XW, exA, KO_eq, KD_eq, OptK_some, EvK_some, GW2_true, GW2_false, KS_normal, KS_ret, KS_exit, KB_normal, KB_ret, KB_exit, CP2_bool, RP_ret, RP_normal, putA_some, putA_none, ev_t, ev_c, evs, evo, wantA, initA, resA, Tr.get_set, vl, chkOk, cond_true, cond_false, Nat.add_zero, Nat.mul_one, Nat.one_mul, Nat.zero_add, Nat.zero_mul, aggOf, pInt, binA, unA, intA, beq_true, beq_false, Bool.not_true, Bool.not_false, Bool.not_eq_true, and_self, and_true, true_and, ↓reduceIte, reduceIte, Nat.reduceEqDiff, Nat.succ_ne_self, Nat.reduceAdd, Nat.reduceMul, Nat.reduceSub, Nat.reduceBEq, Nat.reduceLT, Nat.reduceLeDiff, Int.cast_ofNat_Int, Int.reduceToNat, Int.reduceLT, Int.reduceLE, Int.reduceGE, Int.reduceGT, Int.reduceEq, Int.reduceNe, Int.reduceAdd, Int.reduceSub, Int.reduceNeg, decide_true, decide_false, Int.toNat_natCast, reduceCtorEq, List.nil_append, List.cons_append, AV.boxy, AV.cells, List.length_cons, List.length_nil, Nat.beq_refl, AOp.cl, ↓OW_guard, ↓DW_guard, KDW_0, KDW_1, KDW_2, OWskip_eq, DWskip_eq, fillA, setAt, DChk, DAt, stepA, ble_dec, beq_dec, Bool.and_self, Bool.and_true, Bool.true_and, Bool.and_false, Bool.false_and, List.take_succ_cons, List.take_zero, List.drop_succ_cons, List.drop_zero, List.take_nil, List.drop_nil, List.append_nil, eqAV, eqAVL, BEq.rfl, eqA, eqD, sameS, Option.map, Option.isNone, addrA, wrap64, gt_iff_lt, ge_iff_le, Int.lt_irrefl, Int.le_refl]
        refine Go.trans ⟨⟨_, e3⟩, e4⟩ ?_
        simp only [mPost, if_pos hb, Int.toNat_natCast, e]
        exact g2
    · have hn4 : 4 ≤ m := by omega
      have ev : vPost s m = -1 := by simp [vPost, h4]
      have em : mPost s m = s := by simp [mPost, h4]
      simp -implicitDefEqProofs only [iv, h0, hn0, h4, hn4, ev, em, Bool.false_eq_true, ↓WP_seq, ↓WP_skip, ↓WP_region, ↓WP_dregion, ↓WP_cond, ↓WP_block, ↓WP_exit, ↓WP_ret, ↓OW_nil, ↓OW_cons, ↓DW_nil, ↓DW_cons, ↓XW_call, XW, exA, KO_eq, KD_eq, OptK_some, EvK_some, GW2_true, GW2_false, KS_normal, KS_ret, KS_exit, KB_normal, KB_ret, KB_exit, CP2_bool, RP_ret, RP_normal, putA_some, putA_none, ev_t, ev_c, evs, evo, wantA, initA, resA, Tr.get_set, vl, chkOk, cond_true, cond_false, Nat.add_zero, Nat.mul_one, Nat.one_mul, Nat.zero_add, Nat.zero_mul, aggOf, pInt, binA, unA, intA, beq_true, beq_false, Bool.not_true, Bool.not_false, Bool.not_eq_true, and_self, and_true, true_and, ↓reduceIte, reduceIte, Nat.reduceEqDiff, Nat.succ_ne_self, Nat.reduceAdd, Nat.reduceMul, Nat.reduceSub, Nat.reduceBEq, Nat.reduceLT, Nat.reduceLeDiff, Int.cast_ofNat_Int, Int.reduceToNat, Int.reduceLT, Int.reduceLE, Int.reduceGE, Int.reduceGT, Int.reduceEq, Int.reduceNe, Int.reduceAdd, Int.reduceSub, Int.reduceNeg, decide_true, decide_false, Int.toNat_natCast, reduceCtorEq, List.nil_append, List.cons_append, AV.boxy, AV.cells, List.length_cons, List.length_nil, Nat.beq_refl, AOp.cl, ↓OW_guard, ↓DW_guard, KDW_0, KDW_1, KDW_2, OWskip_eq, DWskip_eq, fillA, setAt, DChk, DAt, stepA, ble_dec, beq_dec, Bool.and_self, Bool.and_true, Bool.true_and, Bool.and_false, Bool.false_and, List.take_succ_cons, List.take_zero, List.drop_succ_cons, List.drop_zero, List.take_nil, List.drop_nil, List.append_nil, eqAV, eqAVL, BEq.rfl, eqA, eqD, sameS, Option.map, Option.isNone, addrA, wrap64, gt_iff_lt, ge_iff_le, Int.lt_irrefl, Int.le_refl]
      exact Go.of h
  · have hn0 : m < 0 := by omega
    have ev : vPost s m = -1 := by simp [vPost, h0]
    have em : mPost s m = s := by simp [mPost, h0]
    simp -implicitDefEqProofs only [iv, h0, hn0, ev, em, Bool.false_eq_true, ↓WP_seq, ↓WP_skip, ↓WP_region, ↓WP_dregion, ↓WP_cond, ↓WP_block, ↓WP_exit, ↓WP_ret, ↓OW_nil, ↓OW_cons, ↓DW_nil, ↓DW_cons, ↓XW_call, XW, exA, KO_eq, KD_eq, OptK_some, EvK_some, GW2_true, GW2_false, KS_normal, KS_ret, KS_exit, KB_normal, KB_ret, KB_exit, CP2_bool, RP_ret, RP_normal, putA_some, putA_none, ev_t, ev_c, evs, evo, wantA, initA, resA, Tr.get_set, vl, chkOk, cond_true, cond_false, Nat.add_zero, Nat.mul_one, Nat.one_mul, Nat.zero_add, Nat.zero_mul, aggOf, pInt, binA, unA, intA, beq_true, beq_false, Bool.not_true, Bool.not_false, Bool.not_eq_true, and_self, and_true, true_and, ↓reduceIte, reduceIte, Nat.reduceEqDiff, Nat.succ_ne_self, Nat.reduceAdd, Nat.reduceMul, Nat.reduceSub, Nat.reduceBEq, Nat.reduceLT, Nat.reduceLeDiff, Int.cast_ofNat_Int, Int.reduceToNat, Int.reduceLT, Int.reduceLE, Int.reduceGE, Int.reduceGT, Int.reduceEq, Int.reduceNe, Int.reduceAdd, Int.reduceSub, Int.reduceNeg, decide_true, decide_false, Int.toNat_natCast, reduceCtorEq, List.nil_append, List.cons_append, AV.boxy, AV.cells, List.length_cons, List.length_nil, Nat.beq_refl, AOp.cl, ↓OW_guard, ↓DW_guard, KDW_0, KDW_1, KDW_2, OWskip_eq, DWskip_eq, fillA, setAt, DChk, DAt, stepA, ble_dec, beq_dec, Bool.and_self, Bool.and_true, Bool.true_and, Bool.and_false, Bool.false_and, List.take_succ_cons, List.take_zero, List.drop_succ_cons, List.drop_zero, List.take_nil, List.drop_nil, List.append_nil, eqAV, eqAVL, BEq.rfl, eqA, eqD, sameS, Option.map, Option.isNone, addrA, wrap64, gt_iff_lt, ge_iff_le, Int.lt_irrefl, Int.le_refl]
    exact Go.of h
end
end Go.Proofs.Ytldlolpbnfgdeaa.AA
