/- The table: walks of both. -/
import Derived.Test.YtldlolpbnfgdeaaKTabK
import Derived.Test.YtldlolpbnfgdeaaKTabN
set_option linter.unusedSimpArgs false
set_option linter.unusedVariables false
namespace Go.Proofs.Ytldlolpbnfgdeaa.AA
open Go Go.RowKit
set_option maxRecDepth 100000
set_option maxHeartbeats 2000000
attribute [local irreducible] Tr.set
/-! The table of objects: one model for the program's and the reference's. -/
noncomputable def oraT : Rec := fun f args H => bif f.beq 44 then idsO args H else none
noncomputable def MT : Mach := ⟨fsT, noM, oraT⟩
abbrev Pl := Int × Int
abbrev TG := Int → Option Pl
abbrev kI : Int → AV := fun k => .int .i64 k
/-- A table, at block b, with its two maps. -/
structure TabR (H : AHeap) (b r1 r2 : Nat) (g : TG) : Prop where
  blk : Blk H b 2 fun i => if i = 0 then .map (some r1) else .map (some r2)
  place : MR kI pl H r1 g
  ids : ∃ f2 : Pl → Option Int, MR pl kI H r2 f2 ∧ ∀ p i, f2 p = some i ↔ g i = some p
  ne : b ≠ r1 ∧ b ≠ r2 ∧ r1 ≠ r2
  dom : ∀ i p, g i = some p → 4 ≤ i ∧ i < 1024
theorem TabR.keep {H H' : AHeap} {b r1 r2 : Nat} {g : TG} (h : TabR H b r1 r2 g) (hl : H.next ≤ H'.next) (hb : H'.get b = H.get b) (h1 : H'.get r1 = H.get r1) (h2 : H'.get r2 = H.get r2) : TabR H' b r1 r2 g := by
  obtain ⟨f2, hf, he⟩ := h.ids
  exact ⟨h.blk.keep' hl hb, h.place.keep hl h1, ⟨f2, hf.keep hl h2, he⟩, h.ne, h.dom⟩
theorem TabR.lds {H : AHeap} {b r1 r2 : Nat} {g : TG} (h : TabR H b r1 r2 g) : loadA H b 0 1 = some [.map (some r1)] ∧ loadA H b 1 1 = some [.map (some r2)] := ⟨h.blk.load (i := 0) (by omega), h.blk.load (i := 1) (by omega)⟩
theorem MR.lt {κ ν : Type} {kc : κ → AV} {vc : ν → AV} {H : AHeap} {r : Nat} {f : κ → Option ν} (h : MR kc vc H r f) : r < H.next := by
  obtain ⟨l, c, h⟩ := h
  exact h.lt
theorem TabR.lts {H : AHeap} {b r1 r2 : Nat} {g : TG} (h : TabR H b r1 r2 g) : b < H.next ∧ r1 < H.next ∧ r2 < H.next := by
  obtain ⟨f2, hf, -⟩ := h.ids
  exact ⟨h.blk.1, h.place.lt, hf.lt⟩
/-- Nothing else is touched. -/
abbrev D2 (r1 r2 : Nat) : Nat → Prop := fun x => x = r1 ∨ x = r2
theorem c_New (H : AHeap) : CW MT 40 [] H fun v H' => ∃ b r1 r2, v = .ptr (some (b, 0)) ∧ TabR H' b r1 r2 (fun _ => none) ∧ H.next ≤ b ∧ H.next ≤ r1 ∧ H.next ≤ r2 ∧ Evo (fun _ => False) H H' := by
  refine CW_of (fn := af40) rfl ?_
  unfold af40
  simp -implicitDefEqProofs only [↓exA_lookup, ↓stepA_lookup, ↓exA_mapEnt, ↓exA_entSt, ↓exA_delete, ↓exA_mapUpd, LkA_some, EvA_some, entL_some, updM_some, at0, at1, at2, ↓WP_seq, ↓WP_skip, ↓WP_region, ↓WP_dregion, ↓WP_cond, ↓WP_block, ↓WP_exit, ↓WP_ret, ↓OW_nil, ↓OW_cons, ↓DW_nil, ↓DW_cons, ↓XW_call, XW, exA, KO_eq, KD_eq, OptK_some, EvK_some, GW2_true, GW2_false, KS_normal, KS_ret, KS_exit, KB_normal, KB_ret, KB_exit, CP2_bool, RP_ret, RP_normal, putA_some, putA_none, ev_t, ev_c, evs, evo, wantA, initA, resA, Tr.get_set, vl, chkOk, cond_true, cond_false, Nat.add_zero, Nat.mul_one, Nat.one_mul, Nat.zero_add, Nat.zero_mul, aggOf, pInt, binA, unA, intA, beq_true, beq_false, Bool.not_true, Bool.not_false, Bool.not_eq_true, and_self, and_true, true_and, ↓reduceIte, reduceIte, Nat.reduceEqDiff, Nat.succ_ne_self, Nat.reduceAdd, Nat.reduceMul, Nat.reduceSub, Nat.reduceBEq, Nat.reduceLT, Nat.reduceLeDiff, Int.cast_ofNat_Int, Int.reduceToNat, Int.reduceLT, Int.reduceLE, Int.reduceGE, Int.reduceGT, Int.reduceEq, Int.reduceNe, Int.reduceAdd, Int.reduceSub, Int.reduceNeg, decide_true, decide_false, Int.toNat_natCast, reduceCtorEq, List.nil_append, List.cons_append, AV.boxy, AV.cells, List.length_cons, List.length_nil, Nat.beq_refl, AOp.cl, ↓OW_guard, ↓DW_guard, KDW_0, KDW_1, KDW_2, OWskip_eq, DWskip_eq, fillA, setAt, DChk, DAt, stepA, ble_dec, beq_dec, Bool.and_self, Bool.and_true, Bool.true_and, Bool.and_false, Bool.false_and, List.take_succ_cons, List.take_zero, List.drop_succ_cons, List.drop_zero, List.take_nil, List.drop_nil, List.append_nil, eqAV, eqAVL, BEq.rfl, eqA, eqD, sameS, Option.map, Option.isNone, addrA, wrap64, gt_iff_lt, ge_iff_le, Int.lt_irrefl, Int.le_refl]
  have k0 := MR.new (kc := kI) (vc := pl) H
  have n1 : (H.new (.map [] 0)).next = H.next + 1 := rfl
  have k1 := MR.new (kc := pl) (vc := kI) (H.new (.map [] 0))
  have n2 : ((H.new (.map [] 0)).new (.map [] 0)).next = H.next + 2 := rfl
  refine ⟨_, _, _, rfl, ⟨Blk.newRow _ [_, _] _ ?_, k0.keep (by simp only [AHeap.newRow, next_new]; omega) ?_, ⟨fun _ => none, k1.keep (by simp only [AHeap.newRow, next_new]; omega) ?_, by simp⟩, by omega, by simp⟩, by omega, by omega, by omega, by simp [AHeap.newRow, next_new]; omega, fun j hj _ => ?_⟩
  · intro i v hv
    match i, hv with
    | 0, hv => simpa using hv
    | 1, hv => simpa using hv
  · rw [get_newRow (by omega), get_new, if_neg (by omega)]
  · rw [get_newRow (by omega)]
  · rw [get_newRow (by omega), get_new, if_neg (by omega), get_new, if_neg (by omega)]
/-- An identity's place. -/
theorem c_At {H : AHeap} {b r1 r2 : Nat} {g : TG} (h : TabR H b r1 r2 g) (n : Int) : CW MT 45 [.ptr (some (b, 0)), .int .i64 n] H fun v H' => v = .tuple [pl ((g n).getD (0, 0)), .bool (g n).isSome] ∧ Sm H H' := by
  refine CW_of (fn := af45) rfl ?_
  unfold af45
  have s1 := Chg.newRow H [.int .i64 0, .int .i64 0]
  have b1 := Blk.new H [.int .i64 0, .int .i64 0] (n := 2) rfl
  have hn1 : (H.newRow [.int .i64 0, .int .i64 0]).next = H.next + 1 := rfl
  generalize eH1 : H.newRow [.int .i64 0, .int .i64 0] = H1 at s1 b1 hn1
  have e0 : ∀ z, lookA (.sc .int) z true H1 r1 (.int .i64 n) = some (.tuple [(match g n with | some p => pl p | none => z), .bool (g n).isSome], H1) := fun z => by
    have hp := h.place.keep s1.1 (s1.gt h.lts.2.1)
    cases hg : g n with
    | none => exact hp.look_no keyed_int hg
    | some p => exact hp.look_yes keyed_int hg
  have l0 : loadA H1 b 0 1 = some [.map (some r1)] := by rw [s1.ld h.lts.1]; exact h.lds.1
  have e1 : ((match g n with | some p => pl p | none => .agg [.int .i64 0, .int .i64 0]) : AV) = .agg [.int .i64 ((g n).getD (0, 0)).1, .int .i64 ((g n).getD (0, 0)).2] := by cases g n <;> rfl
  obtain ⟨H2, q1, q2, q3, q4⟩ := store_new H1 [.int .i64 0, .int .i64 0] [.int .i64 ((g n).getD (0, 0)).1, .int .i64 ((g n).getD (0, 0)).2] rfl
  have l1 := q4.load (n := 2) rfl
  have b2 := b1.keep' (H' := H2) (by omega) (q3.gt (by omega))
  obtain ⟨H3, q5, q6, q7⟩ := b2.stores (i := 0) (vs := [.int .i64 ((g n).getD (0, 0)).1, .int .i64 ((g n).getD (0, 0)).2]) (by simp)
  have l2 := q6.load2 (i := 0) (by omega)
  simp -implicitDefEqProofs only [eH1, e0, e1, l0, l1, l2, q1, q5, ↓exA_lookup, ↓stepA_lookup, ↓exA_mapEnt, ↓exA_entSt, ↓exA_delete, ↓exA_mapUpd, LkA_some, EvA_some, entL_some, updM_some, at0, at1, at2, ↓WP_seq, ↓WP_skip, ↓WP_region, ↓WP_dregion, ↓WP_cond, ↓WP_block, ↓WP_exit, ↓WP_ret, ↓OW_nil, ↓OW_cons, ↓DW_nil, ↓DW_cons, ↓XW_call, XW, exA, KO_eq, KD_eq, OptK_some, EvK_some, GW2_true, GW2_false, KS_normal, KS_ret, KS_exit, KB_normal, KB_ret, KB_exit, CP2_bool, RP_ret, RP_normal, putA_some, putA_none, ev_t, ev_c, evs, evo, wantA, initA, resA, Tr.get_set, vl, chkOk, cond_true, cond_false, Nat.add_zero, Nat.mul_one, Nat.one_mul, Nat.zero_add, Nat.zero_mul, aggOf, pInt, binA, unA, intA, beq_true, beq_false, Bool.not_true, Bool.not_false, Bool.not_eq_true, and_self, and_true, true_and, ↓reduceIte, reduceIte, Nat.reduceEqDiff, Nat.succ_ne_self, Nat.reduceAdd, Nat.reduceMul, Nat.reduceSub, Nat.reduceBEq, Nat.reduceLT, Nat.reduceLeDiff, Int.cast_ofNat_Int, Int.reduceToNat, Int.reduceLT, Int.reduceLE, Int.reduceGE, Int.reduceGT, Int.reduceEq, Int.reduceNe, Int.reduceAdd, Int.reduceSub, Int.reduceNeg, decide_true, decide_false, Int.toNat_natCast, reduceCtorEq, List.nil_append, List.cons_append, AV.boxy, AV.cells, List.length_cons, List.length_nil, Nat.beq_refl, AOp.cl, ↓OW_guard, ↓DW_guard, KDW_0, KDW_1, KDW_2, OWskip_eq, DWskip_eq, fillA, setAt, DChk, DAt, stepA, ble_dec, beq_dec, Bool.and_self, Bool.and_true, Bool.true_and, Bool.and_false, Bool.false_and, List.take_succ_cons, List.take_zero, List.drop_succ_cons, List.drop_zero, List.take_nil, List.drop_nil, List.append_nil, eqAV, eqAVL, BEq.rfl, eqA, eqD, sameS, Option.map, Option.isNone, addrA, wrap64, gt_iff_lt, ge_iff_le, Int.lt_irrefl, Int.le_refl]
  exact ⟨rfl, (s1.trans q3).ch (by omega) q7⟩
def Inj (g : TG) : Prop := ∀ i j p, g i = some p → g j = some p → i = j
open Classical in
noncomputable def ofG (g : TG) (p : Pl) : Option Int := if h : ∃ i, g i = some p then some h.choose else none
theorem ofG_iff {g : TG} (hi : Inj g) (p : Pl) (i : Int) : ofG g p = some i ↔ g i = some p := by
  unfold ofG
  by_cases h : ∃ i, g i = some p
  · rw [dif_pos h]
    constructor
    · rintro ⟨⟩; exact h.choose_spec
    · intro h'; rw [hi _ _ _ h.choose_spec h']
  · rw [dif_neg h]
    constructor
    · intro h'; cases h'
    · intro h'; exact absurd ⟨i, h'⟩ h
theorem TabR.inj {H : AHeap} {b r1 r2 : Nat} {g : TG} (h : TabR H b r1 r2 g) : Inj g := by
  obtain ⟨f2, -, he⟩ := h.ids
  intro i j p h1 h2
  have := (he p i).2 h1
  rw [(he p j).2 h2] at this
  exact (Option.some.inj this).symm
theorem TabR.of {H : AHeap} {b r1 r2 : Nat} {g : TG} (h : TabR H b r1 r2 g) : MR pl kI H r2 (ofG g) := by
  obtain ⟨f2, hf, he⟩ := h.ids
  have : f2 = ofG g := by
    funext p
    apply Option.ext
    intro i
    rw [he, ofG_iff h.inj]
  rwa [this] at hf
theorem MR.lookG {κ ν : Type} [DecidableEq κ] {sh : ESh} {kc : κ → AV} {vc : ν → AV} (hk : Keyed sh kc) {H : AHeap} {r : Nat} {f : κ → Option ν} (h : MR kc vc H r f) (k : κ) {zero : AV} {z : ν} (hz : vc z = zero) : lookA sh zero true H r (kc k) = some (.tuple [vc ((f k).getD z), .bool (f k).isSome], H) := by
  cases hf : f k with
  | none => rw [h.look_no hk hf, ← hz]; rfl
  | some v => rw [h.look_yes hk hf]; rfl
/-- A place's identity. -/
theorem c_Of {H : AHeap} {b r1 r2 : Nat} {g : TG} (h : TabR H b r1 r2 g) (x y : Int) : CW MT 46 [.ptr (some (b, 0)), .agg [.int .i64 x, .int .i64 y]] H fun v H' => v = .tuple [.int .i64 ((ofG g (x, y)).getD 0), .bool (ofG g (x, y)).isSome] ∧ Sm H H' := by
  refine CW_of (fn := af46) rfl ?_
  unfold af46
  have s1 := Chg.newRow H [.int .i64 x, .int .i64 y]
  have b1 := Rd.newRow H [.int .i64 x, .int .i64 y]
  generalize eH1 : H.newRow [.int .i64 x, .int .i64 y] = H1 at s1 b1
  have l1 := b1.load (n := 2) rfl
  have l0 : loadA H1 b 1 1 = some [.map (some r2)] := by rw [s1.ld h.lts.1]; exact h.lds.2
  have e0 : lookA (.parts [(0, 1, .sc .int), (1, 1, .sc .int)]) (.int .i64 0) true H1 r2 (.agg [.int .i64 x, .int .i64 y]) = _ := (h.of.keep s1.1 (s1.gt h.lts.2.2)).lookG keyed_two (x, y) (z := 0) rfl
  simp -implicitDefEqProofs only [eH1, e0, l0, l1, ↓exA_lookup, ↓stepA_lookup, ↓exA_mapEnt, ↓exA_entSt, ↓exA_delete, ↓exA_mapUpd, LkA_some, EvA_some, entL_some, updM_some, at0, at1, at2, ↓WP_seq, ↓WP_skip, ↓WP_region, ↓WP_dregion, ↓WP_cond, ↓WP_block, ↓WP_exit, ↓WP_ret, ↓OW_nil, ↓OW_cons, ↓DW_nil, ↓DW_cons, ↓XW_call, XW, exA, KO_eq, KD_eq, OptK_some, EvK_some, GW2_true, GW2_false, KS_normal, KS_ret, KS_exit, KB_normal, KB_ret, KB_exit, CP2_bool, RP_ret, RP_normal, putA_some, putA_none, ev_t, ev_c, evs, evo, wantA, initA, resA, Tr.get_set, vl, chkOk, cond_true, cond_false, Nat.add_zero, Nat.mul_one, Nat.one_mul, Nat.zero_add, Nat.zero_mul, aggOf, pInt, binA, unA, intA, beq_true, beq_false, Bool.not_true, Bool.not_false, Bool.not_eq_true, and_self, and_true, true_and, ↓reduceIte, reduceIte, Nat.reduceEqDiff, Nat.succ_ne_self, Nat.reduceAdd, Nat.reduceMul, Nat.reduceSub, Nat.reduceBEq, Nat.reduceLT, Nat.reduceLeDiff, Int.cast_ofNat_Int, Int.reduceToNat, Int.reduceLT, Int.reduceLE, Int.reduceGE, Int.reduceGT, Int.reduceEq, Int.reduceNe, Int.reduceAdd, Int.reduceSub, Int.reduceNeg, decide_true, decide_false, Int.toNat_natCast, reduceCtorEq, List.nil_append, List.cons_append, AV.boxy, AV.cells, List.length_cons, List.length_nil, Nat.beq_refl, AOp.cl, ↓OW_guard, ↓DW_guard, KDW_0, KDW_1, KDW_2, OWskip_eq, DWskip_eq, fillA, setAt, DChk, DAt, stepA, ble_dec, beq_dec, Bool.and_self, Bool.and_true, Bool.true_and, Bool.and_false, Bool.false_and, List.take_succ_cons, List.take_zero, List.drop_succ_cons, List.drop_zero, List.take_nil, List.drop_nil, List.append_nil, eqAV, eqAVL, BEq.rfl, eqA, eqD, sameS, Option.map, Option.isNone, addrA, wrap64, gt_iff_lt, ge_iff_le, Int.lt_irrefl, Int.le_refl]
  exact s1
theorem fset_none {g : TG} {n : Int} (h : g n = none) : fset g n none = g := by
  funext j
  by_cases hj : j = n
  · subst hj; rw [fset_same, h]
  · rw [fset_ne hj]
/-- An identity is freed. -/
theorem c_Give {H : AHeap} {b r1 r2 : Nat} {g : TG} (h : TabR H b r1 r2 g) (n : Int) : CW MT 42 [.ptr (some (b, 0)), .int .i64 n] H fun v H' => v = .bool (g n).isSome ∧ TabR H' b r1 r2 (fset g n none) ∧ Evo (D2 r1 r2) H H' := by
  refine CW_of (fn := af42) rfl ?_
  unfold af42
  obtain ⟨n1, n2, n3⟩ := h.lts
  obtain ⟨d1, d2, d3⟩ := h.ne
  have e0 : lookA (.sc .int) (.agg [.int .i64 0, .int .i64 0]) true H r1 (.int .i64 n) = _ := h.place.lookG keyed_int n (z := (0, 0)) rfl
  obtain ⟨H2, q1, q2, q3, q4⟩ := store_new H [.int .i64 0, .int .i64 0] [.int .i64 ((g n).getD (0, 0)).1, .int .i64 ((g n).getD (0, 0)).2] rfl
  cases hg : g n with
  | none =>
    rw [hg] at e0 q1 q4
    simp -implicitDefEqProofs only [Option.getD_none] at q1
    simp -implicitDefEqProofs only [e0, h.lds.1, pl, q1, Option.getD_none, Option.isSome_none, Bool.false_eq_true, ↓exA_lookup, ↓stepA_lookup, ↓exA_mapEnt, ↓exA_entSt, ↓exA_delete, ↓exA_mapUpd, LkA_some, EvA_some, entL_some, updM_some, at0, at1, at2, ↓WP_seq, ↓WP_skip, ↓WP_region, ↓WP_dregion, ↓WP_cond, ↓WP_block, ↓WP_exit, ↓WP_ret, ↓OW_nil, ↓OW_cons, ↓DW_nil, ↓DW_cons, ↓XW_call, XW, exA, KO_eq, KD_eq, OptK_some, EvK_some, GW2_true, GW2_false, KS_normal, KS_ret, KS_exit, KB_normal, KB_ret, KB_exit, CP2_bool, RP_ret, RP_normal, putA_some, putA_none, ev_t, ev_c, evs, evo, wantA, initA, resA, Tr.get_set, vl, chkOk, cond_true, cond_false, Nat.add_zero, Nat.mul_one, Nat.one_mul, Nat.zero_add, Nat.zero_mul, aggOf, pInt, binA, unA, intA, beq_true, beq_false, Bool.not_true, Bool.not_false, Bool.not_eq_true, and_self, and_true, true_and, ↓reduceIte, reduceIte, Nat.reduceEqDiff, Nat.succ_ne_self, Nat.reduceAdd, Nat.reduceMul, Nat.reduceSub, Nat.reduceBEq, Nat.reduceLT, Nat.reduceLeDiff, Int.cast_ofNat_Int, Int.reduceToNat, Int.reduceLT, Int.reduceLE, Int.reduceGE, Int.reduceGT, Int.reduceEq, Int.reduceNe, Int.reduceAdd, Int.reduceSub, Int.reduceNeg, decide_true, decide_false, Int.toNat_natCast, reduceCtorEq, List.nil_append, List.cons_append, AV.boxy, AV.cells, List.length_cons, List.length_nil, Nat.beq_refl, AOp.cl, ↓OW_guard, ↓DW_guard, KDW_0, KDW_1, KDW_2, OWskip_eq, DWskip_eq, fillA, setAt, DChk, DAt, stepA, ble_dec, beq_dec, Bool.and_self, Bool.and_true, Bool.true_and, Bool.and_false, Bool.false_and, List.take_succ_cons, List.take_zero, List.drop_succ_cons, List.drop_zero, List.take_nil, List.drop_nil, List.append_nil, eqAV, eqAVL, BEq.rfl, eqA, eqD, sameS, Option.map, Option.isNone, addrA, wrap64, gt_iff_lt, ge_iff_le, Int.lt_irrefl, Int.le_refl]
    rw [fset_none hg]
    exact ⟨h.keep q3.1 (q3.gt n1) (q3.gt n2) (q3.gt n3), Evo.of_sm q3⟩
  | some p =>
    rw [hg] at e0 q1 q4
    have k2 := h.place.keep q3.1 (q3.gt n2)
    obtain ⟨H3, p1, p2, p3⟩ := k2.del keyed_int hg
    have o2 := h.of.keep (H' := H3) (by rw [p3.1]; exact q3.1) (by rw [p3.2 r2 (Ne.symm d3), q3.gt n3])
    have hof : ofG g p = some n := (ofG_iff h.inj p n).2 hg
    obtain ⟨H4, p4, p5, p6⟩ := o2.del keyed_two hof
    have l1 : loadA H2 b 0 1 = some [.map (some r1)] := by rw [q3.ld n1]; exact h.lds.1
    have l2 : loadA H3 b 1 1 = some [.map (some r2)] := by rw [p3.load d1, q3.ld n1]; exact h.lds.2
    have l2' : loadA H4 b 1 1 = some [.map (some r2)] := by rw [p6.load d2, l2]
    have l3 : loadA H3 H.next 0 2 = some [.int .i64 p.1, .int .i64 p.2] := by rw [p3.load (by omega)]; exact q4.load rfl
    have l3' : loadA H4 H.next 0 2 = some [.int .i64 p.1, .int .i64 p.2] := by rw [p6.load (by omega), l3]
    simp -implicitDefEqProofs only [Option.getD_some] at q1
    simp -implicitDefEqProofs only [pl, kI] at p1 p4
    simp -implicitDefEqProofs only [e0, h.lds.1, pl, q1, l1, l2, l2', l3, l3', p1, p4, Option.getD_some, Option.isSome_some, ↓exA_lookup, ↓stepA_lookup, ↓exA_mapEnt, ↓exA_entSt, ↓exA_delete, ↓exA_mapUpd, LkA_some, EvA_some, entL_some, updM_some, at0, at1, at2, ↓WP_seq, ↓WP_skip, ↓WP_region, ↓WP_dregion, ↓WP_cond, ↓WP_block, ↓WP_exit, ↓WP_ret, ↓OW_nil, ↓OW_cons, ↓DW_nil, ↓DW_cons, ↓XW_call, XW, exA, KO_eq, KD_eq, OptK_some, EvK_some, GW2_true, GW2_false, KS_normal, KS_ret, KS_exit, KB_normal, KB_ret, KB_exit, CP2_bool, RP_ret, RP_normal, putA_some, putA_none, ev_t, ev_c, evs, evo, wantA, initA, resA, Tr.get_set, vl, chkOk, cond_true, cond_false, Nat.add_zero, Nat.mul_one, Nat.one_mul, Nat.zero_add, Nat.zero_mul, aggOf, pInt, binA, unA, intA, beq_true, beq_false, Bool.not_true, Bool.not_false, Bool.not_eq_true, and_self, and_true, true_and, ↓reduceIte, reduceIte, Nat.reduceEqDiff, Nat.succ_ne_self, Nat.reduceAdd, Nat.reduceMul, Nat.reduceSub, Nat.reduceBEq, Nat.reduceLT, Nat.reduceLeDiff, Int.cast_ofNat_Int, Int.reduceToNat, Int.reduceLT, Int.reduceLE, Int.reduceGE, Int.reduceGT, Int.reduceEq, Int.reduceNe, Int.reduceAdd, Int.reduceSub, Int.reduceNeg, decide_true, decide_false, Int.toNat_natCast, reduceCtorEq, List.nil_append, List.cons_append, AV.boxy, AV.cells, List.length_cons, List.length_nil, Nat.beq_refl, AOp.cl, ↓OW_guard, ↓DW_guard, KDW_0, KDW_1, KDW_2, OWskip_eq, DWskip_eq, fillA, setAt, DChk, DAt, stepA, ble_dec, beq_dec, Bool.and_self, Bool.and_true, Bool.true_and, Bool.and_false, Bool.false_and, List.take_succ_cons, List.take_zero, List.drop_succ_cons, List.drop_zero, List.take_nil, List.drop_nil, List.append_nil, eqAV, eqAVL, BEq.rfl, eqA, eqD, sameS, Option.map, Option.isNone, addrA, wrap64, gt_iff_lt, ge_iff_le, Int.lt_irrefl, Int.le_refl]
    refine ⟨⟨?_, p2.keep (by rw [p6.1]; exact Nat.le_refl _) (p6.2 r1 d3), ⟨fset (ofG g) p none, p5, fun q i => ?_⟩, h.ne, fun i q hi => ?_⟩, ?_⟩
    · exact h.blk.keep' (by rw [p6.1, p3.1]; exact q3.1) (by rw [p6.2 b d2, p3.2 b d1, q3.gt n1])
    · by_cases hq : q = p
      · subst hq
        rw [fset_same]
        constructor
        · intro h; cases h
        · intro hi
          by_cases hin : i = n
          · subst hin; rw [fset_same] at hi; cases hi
          · rw [fset_ne hin] at hi
            exact absurd (h.inj _ _ _ hi hg) hin
      · rw [fset_ne hq, ofG_iff h.inj]
        by_cases hin : i = n
        · subst hin
          rw [fset_same, hg]
          constructor
          · intro e; exact absurd (Option.some.inj e).symm hq
          · intro e; cases e
        · rw [fset_ne hin]
    · by_cases hin : i = n
      · subst hin; rw [fset_same] at hi; cases hi
      · rw [fset_ne hin] at hi
        exact h.dom i q hi
    · exact (Evo.of_sm (D := D2 r1 r2) q3).then ((Evo.of_ch (D := D2 r1 r2) p3 (.inl rfl)).then (Evo.of_ch p6 (.inr rfl)) fun _ _ h => h) fun _ _ h => h
end Go.Proofs.Ytldlolpbnfgdeaa.AA
namespace Go.Proofs.Ytldlolpbnfgdeaa.AA
open Go Go.RowKit
set_option maxRecDepth 100000
set_option maxHeartbeats 2000000
attribute [local irreducible] Tr.set
/-- The least that is free. -/
def Lst (g : TG) (i : Int) : Prop := 4 ≤ i ∧ i < 1024 ∧ g i = none ∧ ∀ j, 4 ≤ j → j < i → g j ≠ none
theorem Lst.uniq {g : TG} {i j : Int} (h : Lst g i) (h' : Lst g j) : i = j := by
  obtain ⟨a1, a2, a3, a4⟩ := h
  obtain ⟨b1, b2, b3, b4⟩ := h'
  by_cases hij : i < j
  · exact absurd a3 (b4 i a1 hij)
  · by_cases hji : j < i
    · exact absurd b3 (a4 j b1 hji)
    · omega
open Classical in
noncomputable def tk (g : TG) (p : Pl) : Int × TG := if (∃ i, g i = some p) then (-1, g) else if h : ∃ i, Lst g i then (h.choose, fset g h.choose (some p)) else (-1, g)
theorem tk_in {g : TG} {p : Pl} (h : ∃ i, g i = some p) : tk g p = (-1, g) := by unfold tk; rw [if_pos h]
theorem tk_at {g : TG} {p : Pl} {i : Int} (h : ∀ j, g j ≠ some p) (hi : Lst g i) : tk g p = (i, fset g i (some p)) := by
  unfold tk
  have h' : ∃ i, Lst g i := ⟨i, hi⟩
  rw [if_neg (by rintro ⟨j, hj⟩; exact h j hj), dif_pos h', h'.choose_spec.uniq hi]
theorem tk_full {g : TG} {p : Pl} (h : ∀ j, g j ≠ some p) (hi : ∀ j, 4 ≤ j → j < 1024 → g j ≠ none) : tk g p = (-1, g) := by
  unfold tk
  rw [if_neg (by rintro ⟨j, hj⟩; exact h j hj), dif_neg]
  rintro ⟨i, h1, h2, h3, h4⟩
  exact hi i h1 h2 h3
/-- A place is given the least identity. -/
theorem c_Take {H : AHeap} {b r1 r2 : Nat} {g : TG} (h : TabR H b r1 r2 g) (x y : Int) : CW MT 41 [.ptr (some (b, 0)), .agg [.int .i64 x, .int .i64 y]] H fun v H' => v = .int .i64 (tk g (x, y)).1 ∧ TabR H' b r1 r2 (tk g (x, y)).2 ∧ Evo (D2 r1 r2) H H' := by
  refine CW_of (fn := af41) rfl ?_
  unfold af41
  obtain ⟨n1, n2, n3⟩ := h.lts
  obtain ⟨d1, d2, d3⟩ := h.ne
  have s1 := Chg.newRow H [.int .i64 x, .int .i64 y]
  have b1 := Rd.newRow H [.int .i64 x, .int .i64 y]
  have hn1 : (H.newRow [.int .i64 x, .int .i64 y]).next = H.next + 1 := rfl
  generalize eH1 : H.newRow [.int .i64 x, .int .i64 y] = H1 at s1 b1 hn1
  have l1 := b1.load (n := 2) rfl
  have l0 : loadA H1 b 1 1 = some [.map (some r2)] := by rw [s1.ld n1]; exact h.lds.2
  have e0 : lookA (.parts [(0, 1, .sc .int), (1, 1, .sc .int)]) (.int .i64 0) true H1 r2 (.agg [.int .i64 x, .int .i64 y]) = _ := (h.of.keep s1.1 (s1.gt n3)).lookG keyed_two (x, y) (z := 0) rfl
  cases ho : ofG g (x, y) with
  | some i =>
    rw [ho] at e0
    have ht := tk_in ⟨i, (ofG_iff h.inj (x, y) i).1 ho⟩
    rw [ht]
    simp -implicitDefEqProofs only [eH1, e0, l0, l1, Option.isSome_some, ↓exA_lookup, ↓stepA_lookup, ↓exA_mapEnt, ↓exA_entSt, ↓exA_delete, ↓exA_mapUpd, LkA_some, EvA_some, entL_some, updM_some, at0, at1, at2, ↓WP_seq, ↓WP_skip, ↓WP_region, ↓WP_dregion, ↓WP_cond, ↓WP_block, ↓WP_exit, ↓WP_ret, ↓OW_nil, ↓OW_cons, ↓DW_nil, ↓DW_cons, ↓XW_call, XW, exA, KO_eq, KD_eq, OptK_some, EvK_some, GW2_true, GW2_false, KS_normal, KS_ret, KS_exit, KB_normal, KB_ret, KB_exit, CP2_bool, RP_ret, RP_normal, putA_some, putA_none, ev_t, ev_c, evs, evo, wantA, initA, resA, Tr.get_set, vl, chkOk, cond_true, cond_false, Nat.add_zero, Nat.mul_one, Nat.one_mul, Nat.zero_add, Nat.zero_mul, aggOf, pInt, binA, unA, intA, beq_true, beq_false, Bool.not_true, Bool.not_false, Bool.not_eq_true, and_self, and_true, true_and, ↓reduceIte, reduceIte, Nat.reduceEqDiff, Nat.succ_ne_self, Nat.reduceAdd, Nat.reduceMul, Nat.reduceSub, Nat.reduceBEq, Nat.reduceLT, Nat.reduceLeDiff, Int.cast_ofNat_Int, Int.reduceToNat, Int.reduceLT, Int.reduceLE, Int.reduceGE, Int.reduceGT, Int.reduceEq, Int.reduceNe, Int.reduceAdd, Int.reduceSub, Int.reduceNeg, decide_true, decide_false, Int.toNat_natCast, reduceCtorEq, List.nil_append, List.cons_append, AV.boxy, AV.cells, List.length_cons, List.length_nil, Nat.beq_refl, AOp.cl, ↓OW_guard, ↓DW_guard, KDW_0, KDW_1, KDW_2, OWskip_eq, DWskip_eq, fillA, setAt, DChk, DAt, stepA, ble_dec, beq_dec, Bool.and_self, Bool.and_true, Bool.true_and, Bool.and_false, Bool.false_and, List.take_succ_cons, List.take_zero, List.drop_succ_cons, List.drop_zero, List.take_nil, List.drop_nil, List.append_nil, eqAV, eqAVL, BEq.rfl, eqA, eqD, sameS, Option.map, Option.isNone, addrA, wrap64, gt_iff_lt, ge_iff_le, Int.lt_irrefl, Int.le_refl]
    exact ⟨h.keep s1.1 (s1.gt n1) (s1.gt n2) (s1.gt n3), Evo.of_sm s1⟩
  | none =>
    rw [ho] at e0
    have hno : ∀ j, g j ≠ some (x, y) := fun j hj => by rw [(ofG_iff h.inj (x, y) j).2 hj] at ho; cases ho
    simp -implicitDefEqProofs only [eH1, e0, l0, l1, Option.isSome_none, Bool.false_eq_true, ↓exA_lookup, ↓stepA_lookup, ↓exA_mapEnt, ↓exA_entSt, ↓exA_delete, ↓exA_mapUpd, LkA_some, EvA_some, entL_some, updM_some, at0, at1, at2, ↓WP_seq, ↓WP_skip, ↓WP_region, ↓WP_dregion, ↓WP_cond, ↓WP_block, ↓WP_exit, ↓WP_ret, ↓OW_nil, ↓OW_cons, ↓DW_nil, ↓DW_cons, ↓XW_call, XW, exA, KO_eq, KD_eq, OptK_some, EvK_some, GW2_true, GW2_false, KS_normal, KS_ret, KS_exit, KB_normal, KB_ret, KB_exit, CP2_bool, RP_ret, RP_normal, putA_some, putA_none, ev_t, ev_c, evs, evo, wantA, initA, resA, Tr.get_set, vl, chkOk, cond_true, cond_false, Nat.add_zero, Nat.mul_one, Nat.one_mul, Nat.zero_add, Nat.zero_mul, aggOf, pInt, binA, unA, intA, beq_true, beq_false, Bool.not_true, Bool.not_false, Bool.not_eq_true, and_self, and_true, true_and, ↓reduceIte, reduceIte, Nat.reduceEqDiff, Nat.succ_ne_self, Nat.reduceAdd, Nat.reduceMul, Nat.reduceSub, Nat.reduceBEq, Nat.reduceLT, Nat.reduceLeDiff, Int.cast_ofNat_Int, Int.reduceToNat, Int.reduceLT, Int.reduceLE, Int.reduceGE, Int.reduceGT, Int.reduceEq, Int.reduceNe, Int.reduceAdd, Int.reduceSub, Int.reduceNeg, decide_true, decide_false, Int.toNat_natCast, reduceCtorEq, List.nil_append, List.cons_append, AV.boxy, AV.cells, List.length_cons, List.length_nil, Nat.beq_refl, AOp.cl, ↓OW_guard, ↓DW_guard, KDW_0, KDW_1, KDW_2, OWskip_eq, DWskip_eq, fillA, setAt, DChk, DAt, stepA, ble_dec, beq_dec, Bool.and_self, Bool.and_true, Bool.true_and, Bool.and_false, Bool.false_and, List.take_succ_cons, List.take_zero, List.drop_succ_cons, List.drop_zero, List.take_nil, List.drop_nil, List.append_nil, eqAV, eqAVL, BEq.rfl, eqA, eqD, sameS, Option.map, Option.isNone, addrA, wrap64, gt_iff_lt, ge_iff_le, Int.lt_irrefl, Int.le_refl]
    refine WP_loop (fun n fr H' => ∃ i : Int, n = (1024 - i).toNat ∧ 4 ≤ i ∧ i ≤ 1024 ∧ (∀ j, 4 ≤ j → j < i → g j ≠ none) ∧ fr.get 0 = some (.ptr (some (b, 0))) ∧ fr.get 3 = some (.ptr (some (H.next, 0))) ∧ fr.get 7 = some (.int .i64 i) ∧ Chg H1 H' none) 1020 ?_ ?_
    · refine ⟨4, rfl, by omega, by omega, fun j h1 h2 => by omega, ?_⟩
      simp -implicitDefEqProofs only [↓WP_seq, ↓WP_skip, ↓WP_region, ↓WP_dregion, ↓WP_cond, ↓WP_block, ↓WP_exit, ↓WP_ret, ↓OW_nil, ↓OW_cons, ↓DW_nil, ↓DW_cons, ↓XW_call, XW, exA, KO_eq, KD_eq, OptK_some, EvK_some, GW2_true, GW2_false, KS_normal, KS_ret, KS_exit, KB_normal, KB_ret, KB_exit, CP2_bool, RP_ret, RP_normal, putA_some, putA_none, ev_t, ev_c, evs, evo, wantA, initA, resA, Tr.get_set, vl, chkOk, cond_true, cond_false, Nat.add_zero, Nat.mul_one, Nat.one_mul, Nat.zero_add, Nat.zero_mul, aggOf, pInt, binA, unA, intA, beq_true, beq_false, Bool.not_true, Bool.not_false, Bool.not_eq_true, and_self, and_true, true_and, ↓reduceIte, reduceIte, Nat.reduceEqDiff, Nat.succ_ne_self, Nat.reduceAdd, Nat.reduceMul, Nat.reduceSub, Nat.reduceBEq, Nat.reduceLT, Nat.reduceLeDiff, Int.cast_ofNat_Int, Int.reduceToNat, Int.reduceLT, Int.reduceLE, Int.reduceGE, Int.reduceGT, Int.reduceEq, Int.reduceNe, Int.reduceAdd, Int.reduceSub, Int.reduceNeg, decide_true, decide_false, Int.toNat_natCast, reduceCtorEq, List.nil_append, List.cons_append, AV.boxy, AV.cells, List.length_cons, List.length_nil, Nat.beq_refl, AOp.cl, ↓OW_guard, ↓DW_guard, KDW_0, KDW_1, KDW_2, OWskip_eq, DWskip_eq, fillA, setAt, DChk, DAt, stepA, ble_dec, beq_dec, Bool.and_self, Bool.and_true, Bool.true_and, Bool.and_false, Bool.false_and, List.take_succ_cons, List.take_zero, List.drop_succ_cons, List.drop_zero, List.take_nil, List.drop_nil, List.append_nil, eqAV, eqAVL, BEq.rfl, eqA, eqD, sameS, Option.map, Option.isNone, addrA, wrap64, gt_iff_lt, ge_iff_le, Int.lt_irrefl, Int.le_refl]
      exact Chg.refl H1
    · rintro n fr H2 ⟨i, hn, hi1, hi2, hlo, g0, g3, g7, s2⟩
      have k1 := h.place.keep (H' := H2) (by have := s1.1; have := s2.1; omega) (by rw [s2.gt (by omega), s1.gt n2])
      have l2 : loadA H2 b 0 1 = some [.map (some r1)] := by rw [s2.ld (by omega), s1.ld n1]; exact h.lds.1
      have e1 : lookA (.sc .int) (.agg [.int .i64 0, .int .i64 0]) true H2 r1 (.int .i64 i) = _ := k1.lookG keyed_int i (z := (0, 0)) rfl
      by_cases hlt : i < 1024
      · obtain ⟨H3, q1, q2, q3, q4⟩ := store_new H2 [.int .i64 0, .int .i64 0] [.int .i64 ((g i).getD (0, 0)).1, .int .i64 ((g i).getD (0, 0)).2] rfl
        have hw : IntKind.i64.wrap (i + 1) = i + 1 := wrap64 (by omega) (by omega)
        cases hg : g i with
        | some p =>
          rw [hg] at e1 q1 q4
          simp -implicitDefEqProofs only [Option.getD_some] at q1
          simp -implicitDefEqProofs only [g0, g3, g7, hlt, e1, l2, q1, hw, pl, Option.getD_some, Option.isSome_some, Bool.false_eq_true, ↓exA_lookup, ↓stepA_lookup, ↓exA_mapEnt, ↓exA_entSt, ↓exA_delete, ↓exA_mapUpd, LkA_some, EvA_some, entL_some, updM_some, at0, at1, at2, ↓WP_seq, ↓WP_skip, ↓WP_region, ↓WP_dregion, ↓WP_cond, ↓WP_block, ↓WP_exit, ↓WP_ret, ↓OW_nil, ↓OW_cons, ↓DW_nil, ↓DW_cons, ↓XW_call, XW, exA, KO_eq, KD_eq, OptK_some, EvK_some, GW2_true, GW2_false, KS_normal, KS_ret, KS_exit, KB_normal, KB_ret, KB_exit, CP2_bool, RP_ret, RP_normal, putA_some, putA_none, ev_t, ev_c, evs, evo, wantA, initA, resA, Tr.get_set, vl, chkOk, cond_true, cond_false, Nat.add_zero, Nat.mul_one, Nat.one_mul, Nat.zero_add, Nat.zero_mul, aggOf, pInt, binA, unA, intA, beq_true, beq_false, Bool.not_true, Bool.not_false, Bool.not_eq_true, and_self, and_true, true_and, ↓reduceIte, reduceIte, Nat.reduceEqDiff, Nat.succ_ne_self, Nat.reduceAdd, Nat.reduceMul, Nat.reduceSub, Nat.reduceBEq, Nat.reduceLT, Nat.reduceLeDiff, Int.cast_ofNat_Int, Int.reduceToNat, Int.reduceLT, Int.reduceLE, Int.reduceGE, Int.reduceGT, Int.reduceEq, Int.reduceNe, Int.reduceAdd, Int.reduceSub, Int.reduceNeg, decide_true, decide_false, Int.toNat_natCast, reduceCtorEq, List.nil_append, List.cons_append, AV.boxy, AV.cells, List.length_cons, List.length_nil, Nat.beq_refl, AOp.cl, ↓OW_guard, ↓DW_guard, KDW_0, KDW_1, KDW_2, OWskip_eq, DWskip_eq, fillA, setAt, DChk, DAt, stepA, ble_dec, beq_dec, Bool.and_self, Bool.and_true, Bool.true_and, Bool.and_false, Bool.false_and, List.take_succ_cons, List.take_zero, List.drop_succ_cons, List.drop_zero, List.take_nil, List.drop_nil, List.append_nil, eqAV, eqAVL, BEq.rfl, eqA, eqD, sameS, Option.map, Option.isNone, addrA, wrap64, gt_iff_lt, ge_iff_le, Int.lt_irrefl, Int.le_refl]
          refine ⟨(1024 - (i + 1)).toNat, by omega, i + 1, rfl, by omega, by omega, fun j h1 h2 => ?_, rfl, s2.trans q3⟩
          by_cases hj : j = i
          · subst hj; rw [hg]; simp
          · exact hlo j h1 (by omega)
        | none =>
          rw [hg] at e1 q1 q4
          simp -implicitDefEqProofs only [Option.getD_none] at q1
          have ht : tk g (x, y) = _ := tk_at hno ⟨hi1, hlt, hg, hlo⟩
          rw [ht]
          have s3 := s2.trans q3
          have m1 := h.place.keep (H' := H3) (by have := s1.1; have := s3.1; omega) (by rw [s3.gt (by omega), s1.gt n2])
          have m2 := h.of.keep (H' := H3) (by have := s1.1; have := s3.1; omega) (by rw [s3.gt (by omega), s1.gt n3])
          obtain ⟨v0, st, H4, H5, p1, p2, p3, p4, p5⟩ := m1.ent keyed_int (.agg [.int .i64 0, .int .i64 0]) i (x, y)
          obtain ⟨v1, st2, H6, H7, p6, p7, p8, p9, p10⟩ := (m2.keep (H' := H5) (by rw [p5.1]; exact Nat.le_refl _) (p5.2 r2 (Ne.symm d3))).ent keyed_two (.int .i64 0) (x, y) i
          have lb : ∀ G, G.get b = H3.get b → loadA G b 0 1 = some [.map (some r1)] ∧ loadA G b 1 1 = some [.map (some r2)] := fun G hG => by
            rw [loadA_congr hG, loadA_congr hG, s3.ld (by omega), s3.ld (by omega), s1.ld n1, s1.ld n1]; exact h.lds
          have lx : ∀ G, G.get H.next = H3.get H.next → loadA G H.next 0 2 = some [.int .i64 x, .int .i64 y] := fun G hG => by
            rw [loadA_congr hG, s3.ld (by omega)]; exact l1
          obtain ⟨a1, a2⟩ := lb H3 rfl
          obtain ⟨a3, a4⟩ := lb H4 (p4.2 b d1)
          obtain ⟨a5, a6⟩ := lb H5 (p5.2 b d1)
          obtain ⟨a7, a8⟩ := lb H6 (by rw [p9.2 b d2, p5.2 b d1])
          obtain ⟨a9, a10⟩ := lb H7 (by rw [p10.2 b d2, p5.2 b d1])
          have x1 := lx H3 rfl
          have x2 := lx H4 (p4.2 _ (by omega))
          have x3 := lx H5 (p5.2 _ (by omega))
          have x4 := lx H6 (by rw [p9.2 _ (by omega), p5.2 _ (by omega)])
          have x5 := lx H7 (by rw [p10.2 _ (by omega), p5.2 _ (by omega)])
          simp -implicitDefEqProofs only [pl, kI] at p1 p2 p6 p7
          simp -implicitDefEqProofs only [g0, g3, g7, hlt, e1, l2, q1, hw, pl, a1, a2, a3, a4, a5, a6, a7, a8, a9, a10, x1, x2, x3, x4, x5, p1, p2, p6, p7, Option.getD_none, Option.isSome_none, ↓exA_lookup, ↓stepA_lookup, ↓exA_mapEnt, ↓exA_entSt, ↓exA_delete, ↓exA_mapUpd, LkA_some, EvA_some, entL_some, updM_some, at0, at1, at2, ↓WP_seq, ↓WP_skip, ↓WP_region, ↓WP_dregion, ↓WP_cond, ↓WP_block, ↓WP_exit, ↓WP_ret, ↓OW_nil, ↓OW_cons, ↓DW_nil, ↓DW_cons, ↓XW_call, XW, exA, KO_eq, KD_eq, OptK_some, EvK_some, GW2_true, GW2_false, KS_normal, KS_ret, KS_exit, KB_normal, KB_ret, KB_exit, CP2_bool, RP_ret, RP_normal, putA_some, putA_none, ev_t, ev_c, evs, evo, wantA, initA, resA, Tr.get_set, vl, chkOk, cond_true, cond_false, Nat.add_zero, Nat.mul_one, Nat.one_mul, Nat.zero_add, Nat.zero_mul, aggOf, pInt, binA, unA, intA, beq_true, beq_false, Bool.not_true, Bool.not_false, Bool.not_eq_true, and_self, and_true, true_and, ↓reduceIte, reduceIte, Nat.reduceEqDiff, Nat.succ_ne_self, Nat.reduceAdd, Nat.reduceMul, Nat.reduceSub, Nat.reduceBEq, Nat.reduceLT, Nat.reduceLeDiff, Int.cast_ofNat_Int, Int.reduceToNat, Int.reduceLT, Int.reduceLE, Int.reduceGE, Int.reduceGT, Int.reduceEq, Int.reduceNe, Int.reduceAdd, Int.reduceSub, Int.reduceNeg, decide_true, decide_false, Int.toNat_natCast, reduceCtorEq, List.nil_append, List.cons_append, AV.boxy, AV.cells, List.length_cons, List.length_nil, Nat.beq_refl, AOp.cl, ↓OW_guard, ↓DW_guard, KDW_0, KDW_1, KDW_2, OWskip_eq, DWskip_eq, fillA, setAt, DChk, DAt, stepA, ble_dec, beq_dec, Bool.and_self, Bool.and_true, Bool.true_and, Bool.and_false, Bool.false_and, List.take_succ_cons, List.take_zero, List.drop_succ_cons, List.drop_zero, List.take_nil, List.drop_nil, List.append_nil, eqAV, eqAVL, BEq.rfl, eqA, eqD, sameS, Option.map, Option.isNone, addrA, wrap64, gt_iff_lt, ge_iff_le, Int.lt_irrefl, Int.le_refl]
          have hE : Evo (D2 r1 r2) H H7 := (Evo.of_sm (s1.trans s3)).then ((Evo.of_ch (D := D2 r1 r2) p5 (.inl rfl)).then (Evo.of_ch p10 (.inr rfl)) fun _ _ h => h) fun _ _ h => h
          refine ⟨⟨?_, p3.keep (by rw [p10.1]; exact Nat.le_refl _) (p10.2 r1 d3), ⟨_, p8, fun q j => ?_⟩, h.ne, fun j q hj => ?_⟩, hE⟩
          · exact h.blk.keep' hE.1 (by rw [p10.2 b d2, p5.2 b d1, s3.gt (by omega), s1.gt n1])
          · by_cases hq : q = (x, y)
            · subst hq
              rw [fset_same]
              constructor
              · rintro ⟨⟩; rw [fset_same]
              · intro hj
                by_cases hji : j = i
                · rw [hji]
                · rw [fset_ne hji] at hj
                  exact absurd hj (hno j)
            · rw [fset_ne hq, ofG_iff h.inj]
              by_cases hji : j = i
              · subst hji
                rw [fset_same, hg]
                constructor
                · intro e; cases e
                · intro e; exact absurd (Option.some.inj e).symm hq
              · rw [fset_ne hji]
          · by_cases hji : j = i
            · subst hji; exact ⟨hi1, hlt⟩
            · rw [fset_ne hji] at hj
              exact h.dom j q hj
      · have hlt' : ¬ i < 1024 := hlt
        have ht : tk g (x, y) = _ := tk_full hno fun j h1 h2 => hlo j h1 (by omega)
        rw [ht]
        have s3 := s1.trans s2
        simp -implicitDefEqProofs only [g0, g3, g7, hlt', Bool.false_eq_true, ↓exA_lookup, ↓stepA_lookup, ↓exA_mapEnt, ↓exA_entSt, ↓exA_delete, ↓exA_mapUpd, LkA_some, EvA_some, entL_some, updM_some, at0, at1, at2, ↓WP_seq, ↓WP_skip, ↓WP_region, ↓WP_dregion, ↓WP_cond, ↓WP_block, ↓WP_exit, ↓WP_ret, ↓OW_nil, ↓OW_cons, ↓DW_nil, ↓DW_cons, ↓XW_call, XW, exA, KO_eq, KD_eq, OptK_some, EvK_some, GW2_true, GW2_false, KS_normal, KS_ret, KS_exit, KB_normal, KB_ret, KB_exit, CP2_bool, RP_ret, RP_normal, putA_some, putA_none, ev_t, ev_c, evs, evo, wantA, initA, resA, Tr.get_set, vl, chkOk, cond_true, cond_false, Nat.add_zero, Nat.mul_one, Nat.one_mul, Nat.zero_add, Nat.zero_mul, aggOf, pInt, binA, unA, intA, beq_true, beq_false, Bool.not_true, Bool.not_false, Bool.not_eq_true, and_self, and_true, true_and, ↓reduceIte, reduceIte, Nat.reduceEqDiff, Nat.succ_ne_self, Nat.reduceAdd, Nat.reduceMul, Nat.reduceSub, Nat.reduceBEq, Nat.reduceLT, Nat.reduceLeDiff, Int.cast_ofNat_Int, Int.reduceToNat, Int.reduceLT, Int.reduceLE, Int.reduceGE, Int.reduceGT, Int.reduceEq, Int.reduceNe, Int.reduceAdd, Int.reduceSub, Int.reduceNeg, decide_true, decide_false, Int.toNat_natCast, reduceCtorEq, List.nil_append, List.cons_append, AV.boxy, AV.cells, List.length_cons, List.length_nil, Nat.beq_refl, AOp.cl, ↓OW_guard, ↓DW_guard, KDW_0, KDW_1, KDW_2, OWskip_eq, DWskip_eq, fillA, setAt, DChk, DAt, stepA, ble_dec, beq_dec, Bool.and_self, Bool.and_true, Bool.true_and, Bool.and_false, Bool.false_and, List.take_succ_cons, List.take_zero, List.drop_succ_cons, List.drop_zero, List.take_nil, List.drop_nil, List.append_nil, eqAV, eqAVL, BEq.rfl, eqA, eqD, sameS, Option.map, Option.isNone, addrA, wrap64, gt_iff_lt, ge_iff_le, Int.lt_irrefl, Int.le_refl]
        exact ⟨h.keep s3.1 (s3.gt n1) (s3.gt n2) (s3.gt n3), Evo.of_sm s3⟩
end Go.Proofs.Ytldlolpbnfgdeaa.AA
namespace Go.Proofs.Ytldlolpbnfgdeaa.AA
open Go Go.RowKit
set_option maxRecDepth 100000
set_option maxHeartbeats 2000000
attribute [local irreducible] Tr.set
def swG (g : TG) (a b : Int) : TG := match g a, g b with
  | some p, some q => fset (fset g a (some q)) b (some p)
  | _, _ => g
theorem TabR.mk' {H H' : AHeap} {b r1 r2 : Nat} {g g' : TG} {f2 : Pl → Option Int} (h : TabR H b r1 r2 g) (hl : H.next ≤ H'.next) (hb : H'.get b = H.get b) (h1 : MR kI pl H' r1 g') (h2 : MR pl kI H' r2 f2) (he : ∀ p i, f2 p = some i ↔ g' i = some p) (hd : ∀ i p, g' i = some p → 4 ≤ i ∧ i < 1024) : TabR H' b r1 r2 g' :=
  ⟨h.blk.keep' hl hb, h1, ⟨f2, h2, he⟩, h.ne, hd⟩
/-- Two identities change their places. -/
theorem c_Swap {H : AHeap} {b r1 r2 : Nat} {g : TG} (h : TabR H b r1 r2 g) (x y : Int) : CW MT 47 [.ptr (some (b, 0)), .int .i64 x, .int .i64 y] H fun v H' => v = .bool ((g x).isSome && (g y).isSome) ∧ TabR H' b r1 r2 (swG g x y) ∧ Evo (D2 r1 r2) H H' := by
  refine CW_of (fn := af47) rfl ?_
  unfold af47
  obtain ⟨n1, n2, n3⟩ := h.lts
  obtain ⟨d1, d2, d3⟩ := h.ne
  have e0 : lookA (.sc .int) (.agg [.int .i64 0, .int .i64 0]) true H r1 (.int .i64 x) = _ := h.place.lookG keyed_int x (z := (0, 0)) rfl
  obtain ⟨H2, q1, q2, q3, q4⟩ := store_new H [.int .i64 0, .int .i64 0] [.int .i64 ((g x).getD (0, 0)).1, .int .i64 ((g x).getD (0, 0)).2] rfl
  have k2 := h.place.keep q3.1 (q3.gt n2)
  have e1 : lookA (.sc .int) (.agg [.int .i64 0, .int .i64 0]) true H2 r1 (.int .i64 y) = _ := k2.lookG keyed_int y (z := (0, 0)) rfl
  obtain ⟨H3, q5, q6, q7, q8⟩ := store_new H2 [.int .i64 0, .int .i64 0] [.int .i64 ((g y).getD (0, 0)).1, .int .i64 ((g y).getD (0, 0)).2] rfl
  have s3 := q3.trans q7
  have l1 : loadA H2 b 0 1 = some [.map (some r1)] := by rw [q3.ld n1]; exact h.lds.1
  by_cases hxy : (g x).isSome = true ∧ (g y).isSome = true
  · obtain ⟨hx, hy⟩ := hxy
    obtain ⟨p, hp⟩ := Option.isSome_iff_exists.1 hx
    obtain ⟨q, hq⟩ := Option.isSome_iff_exists.1 hy
    rw [hp] at e0 q1 q4
    rw [hq] at e1 q5 q8
    simp -implicitDefEqProofs only [Option.getD_some] at q1 q5
    have m1 := h.place.keep s3.1 (s3.gt n2)
    have m2 := h.of.keep s3.1 (s3.gt n3)
    obtain ⟨v0, st, H4, H5, p1, p2, p3, p4, p5⟩ := m1.ent keyed_int (.agg [.int .i64 0, .int .i64 0]) x q
    obtain ⟨v1, st2, H6, H7, p6, p7, p8, p9, p10⟩ := p3.ent keyed_int (.agg [.int .i64 0, .int .i64 0]) y p
    have p11 := p5.trans p10
    have p12 := p5.trans p9
    obtain ⟨v2, st3, H8, H9, u1, u2, u3, u4, u5⟩ := (m2.keep (H' := H7) (by rw [p11.1]; exact Nat.le_refl _) (p11.2 r2 (Ne.symm d3))).ent keyed_two (.int .i64 0) p y
    obtain ⟨v3, st4, HA, HB, u6, u7, u8, u9, u10⟩ := u3.ent keyed_two (.int .i64 0) q x
    have u11 := u5.trans u10
    have u12 := u5.trans u9
    obtain ⟨HC, w1, w2, w3⟩ := u8.upd keyed_two p x
    have u13 := u11.trans w3
    have lb : ∀ G, G.get b = H3.get b → loadA G b 0 1 = some [.map (some r1)] ∧ loadA G b 1 1 = some [.map (some r2)] := fun G hG => by
      rw [loadA_congr hG, loadA_congr hG, s3.ld n1, s3.ld n1]; exact h.lds
    have lx : ∀ G, G.get H.next = H3.get H.next → loadA G H.next 0 2 = some [.int .i64 p.1, .int .i64 p.2] := fun G hG => by
      rw [loadA_congr hG, q7.ld (by omega)]; exact q4.load rfl
    have ly : ∀ G, G.get H2.next = H3.get H2.next → loadA G H2.next 0 2 = some [.int .i64 q.1, .int .i64 q.2] := fun G hG => by
      rw [loadA_congr hG]; exact q8.load rfl
    have g4 : ∀ z, z ≠ r1 → H4.get z = H3.get z := p4.2
    have g5 : ∀ z, z ≠ r1 → H5.get z = H3.get z := p5.2
    have g6 : ∀ z, z ≠ r1 → H6.get z = H3.get z := p12.2
    have g7 : ∀ z, z ≠ r1 → H7.get z = H3.get z := p11.2
    have g8 : ∀ z, z ≠ r1 → z ≠ r2 → H8.get z = H3.get z := fun z h1 h2 => by rw [u4.2 z h2, g7 z h1]
    have g9 : ∀ z, z ≠ r1 → z ≠ r2 → H9.get z = H3.get z := fun z h1 h2 => by rw [u5.2 z h2, g7 z h1]
    have gA : ∀ z, z ≠ r1 → z ≠ r2 → HA.get z = H3.get z := fun z h1 h2 => by rw [u12.2 z h2, g7 z h1]
    have gB : ∀ z, z ≠ r1 → z ≠ r2 → HB.get z = H3.get z := fun z h1 h2 => by rw [u11.2 z h2, g7 z h1]
    have gC : ∀ z, z ≠ r1 → z ≠ r2 → HC.get z = H3.get z := fun z h1 h2 => by rw [u13.2 z h2, g7 z h1]
    have a3 := lb H3 rfl
    have a4 := lb H4 (g4 b d1)
    have a5 := lb H5 (g5 b d1)
    have a6 := lb H6 (g6 b d1)
    have a7 := lb H7 (g7 b d1)
    have a8 := lb H8 (g8 b d1 d2)
    have a9 := lb H9 (g9 b d1 d2)
    have aA := lb HA (gA b d1 d2)
    have aB := lb HB (gB b d1 d2)
    have aC := lb HC (gC b d1 d2)
    have z1 : H.next ≠ r1 := by omega
    have z2 : H.next ≠ r2 := by omega
    have z3 : H2.next ≠ r1 := by omega
    have z4 : H2.next ≠ r2 := by omega
    have x3 := lx H3 rfl
    have x4 := lx H4 (g4 _ z1)
    have x5 := lx H5 (g5 _ z1)
    have x6 := lx H6 (g6 _ z1)
    have x7 := lx H7 (g7 _ z1)
    have x8 := lx H8 (g8 _ z1 z2)
    have x9 := lx H9 (g9 _ z1 z2)
    have xA := lx HA (gA _ z1 z2)
    have xB := lx HB (gB _ z1 z2)
    have xC := lx HC (gC _ z1 z2)
    have y3 := ly H3 rfl
    have y4 := ly H4 (g4 _ z3)
    have y5 := ly H5 (g5 _ z3)
    have y6 := ly H6 (g6 _ z3)
    have y7 := ly H7 (g7 _ z3)
    have y8 := ly H8 (g8 _ z3 z4)
    have y9 := ly H9 (g9 _ z3 z4)
    have yA := ly HA (gA _ z3 z4)
    have yB := ly HB (gB _ z3 z4)
    simp -implicitDefEqProofs only [pl, kI] at p1 p2 p6 p7 u1 u2 u6 u7 w1
    have hs : swG g x y = fset (fset g x (some q)) y (some p) := by unfold swG; rw [hp, hq]
    have hd : ∀ i w, swG g x y i = some w → 4 ≤ i ∧ i < 1024 := fun i w hi => by
      rw [hs] at hi
      by_cases h1 : i = y
      · subst h1; exact h.dom _ _ hq
      · rw [fset_ne h1] at hi
        by_cases h2 : i = x
        · subst h2; exact h.dom _ _ hp
        · rw [fset_ne h2] at hi
          exact h.dom _ _ hi
    have hE1 : Evo (D2 r1 r2) H H7 := (Evo.of_sm s3).then (Evo.of_ch (D := D2 r1 r2) p11 (.inl rfl)) fun _ _ h => h
    have r7 : ∀ G, Ch r2 H7 G → MR kI pl G r1 (swG g x y) := fun G hG => by rw [hs]; exact p8.keep (by rw [hG.1]; exact Nat.le_refl _) (hG.2 r1 d3)
    by_cases hab : x = y
    · subst hab
      obtain rfl : p = q := by rw [hp] at hq; exact Option.some.inj hq
      simp -implicitDefEqProofs only [e0, e1, h.lds.1, l1, pl, q1, q5, a3, a4, a5, a6, a7, a8, a9, aA, aB, aC, x3, x4, x5, x6, x7, x8, x9, xA, xB, xC, y3, y4, y5, y6, y7, y8, y9, yA, yB, p1, p2, p6, p7, u1, u2, u6, u7, w1, hx, Option.getD_some, Option.isSome_some, Bool.false_eq_true, ↓exA_lookup, ↓stepA_lookup, ↓exA_mapEnt, ↓exA_entSt, ↓exA_delete, ↓exA_mapUpd, LkA_some, EvA_some, entL_some, updM_some, at0, at1, at2, ↓WP_seq, ↓WP_skip, ↓WP_region, ↓WP_dregion, ↓WP_cond, ↓WP_block, ↓WP_exit, ↓WP_ret, ↓OW_nil, ↓OW_cons, ↓DW_nil, ↓DW_cons, ↓XW_call, XW, exA, KO_eq, KD_eq, OptK_some, EvK_some, GW2_true, GW2_false, KS_normal, KS_ret, KS_exit, KB_normal, KB_ret, KB_exit, CP2_bool, RP_ret, RP_normal, putA_some, putA_none, ev_t, ev_c, evs, evo, wantA, initA, resA, Tr.get_set, vl, chkOk, cond_true, cond_false, Nat.add_zero, Nat.mul_one, Nat.one_mul, Nat.zero_add, Nat.zero_mul, aggOf, pInt, binA, unA, intA, beq_true, beq_false, Bool.not_true, Bool.not_false, Bool.not_eq_true, and_self, and_true, true_and, ↓reduceIte, reduceIte, Nat.reduceEqDiff, Nat.succ_ne_self, Nat.reduceAdd, Nat.reduceMul, Nat.reduceSub, Nat.reduceBEq, Nat.reduceLT, Nat.reduceLeDiff, Int.cast_ofNat_Int, Int.reduceToNat, Int.reduceLT, Int.reduceLE, Int.reduceGE, Int.reduceGT, Int.reduceEq, Int.reduceNe, Int.reduceAdd, Int.reduceSub, Int.reduceNeg, decide_true, decide_false, Int.toNat_natCast, reduceCtorEq, List.nil_append, List.cons_append, AV.boxy, AV.cells, List.length_cons, List.length_nil, Nat.beq_refl, AOp.cl, ↓OW_guard, ↓DW_guard, KDW_0, KDW_1, KDW_2, OWskip_eq, DWskip_eq, fillA, setAt, DChk, DAt, stepA, ble_dec, beq_dec, Bool.and_self, Bool.and_true, Bool.true_and, Bool.and_false, Bool.false_and, List.take_succ_cons, List.take_zero, List.drop_succ_cons, List.drop_zero, List.take_nil, List.drop_nil, List.append_nil, eqAV, eqAVL, BEq.rfl, eqA, eqD, sameS, Option.map, Option.isNone, addrA, wrap64, gt_iff_lt, ge_iff_le, Int.lt_irrefl, Int.le_refl]
      refine ⟨h.mk' (by have := s3.1; rw [u13.1, p11.1]; exact this) (by rw [gC b d1 d2, s3.gt n1]) (r7 HC u13) w2 (fun w i => ?_) hd, hE1.then (Evo.of_ch u13 (.inr rfl)) fun _ _ h => h⟩
      rw [hs]
      by_cases hw : w = p
      · subst hw
        rw [fset_same]
        constructor
        · rintro ⟨⟩; rw [fset_same]
        · intro hi
          by_cases hix : i = x
          · rw [hix]
          · rw [fset_ne hix, fset_ne hix] at hi
            exact absurd (h.inj _ _ _ hi hp) hix
      · rw [fset_ne hw, fset_ne hw, fset_ne hw, ofG_iff h.inj]
        by_cases hix : i = x
        · subst hix
          rw [fset_same, hp]
        · rw [fset_ne hix, fset_ne hix]
    · have hab' : (x == y) = false := by simp [hab]
      have hpq : p ≠ q := fun e => by subst e; exact hab (h.inj _ _ _ hp hq)
      simp -implicitDefEqProofs only [e0, e1, h.lds.1, l1, pl, q1, q5, a3, a4, a5, a6, a7, a8, a9, aA, aB, x3, x4, x5, x6, x7, x8, x9, xA, xB, y3, y4, y5, y6, y7, y8, y9, yA, yB, p1, p2, p6, p7, u1, u2, u6, u7, hx, hy, hab', Option.getD_some, Option.isSome_some, Bool.false_eq_true, ↓exA_lookup, ↓stepA_lookup, ↓exA_mapEnt, ↓exA_entSt, ↓exA_delete, ↓exA_mapUpd, LkA_some, EvA_some, entL_some, updM_some, at0, at1, at2, ↓WP_seq, ↓WP_skip, ↓WP_region, ↓WP_dregion, ↓WP_cond, ↓WP_block, ↓WP_exit, ↓WP_ret, ↓OW_nil, ↓OW_cons, ↓DW_nil, ↓DW_cons, ↓XW_call, XW, exA, KO_eq, KD_eq, OptK_some, EvK_some, GW2_true, GW2_false, KS_normal, KS_ret, KS_exit, KB_normal, KB_ret, KB_exit, CP2_bool, RP_ret, RP_normal, putA_some, putA_none, ev_t, ev_c, evs, evo, wantA, initA, resA, Tr.get_set, vl, chkOk, cond_true, cond_false, Nat.add_zero, Nat.mul_one, Nat.one_mul, Nat.zero_add, Nat.zero_mul, aggOf, pInt, binA, unA, intA, beq_true, beq_false, Bool.not_true, Bool.not_false, Bool.not_eq_true, and_self, and_true, true_and, ↓reduceIte, reduceIte, Nat.reduceEqDiff, Nat.succ_ne_self, Nat.reduceAdd, Nat.reduceMul, Nat.reduceSub, Nat.reduceBEq, Nat.reduceLT, Nat.reduceLeDiff, Int.cast_ofNat_Int, Int.reduceToNat, Int.reduceLT, Int.reduceLE, Int.reduceGE, Int.reduceGT, Int.reduceEq, Int.reduceNe, Int.reduceAdd, Int.reduceSub, Int.reduceNeg, decide_true, decide_false, Int.toNat_natCast, reduceCtorEq, List.nil_append, List.cons_append, AV.boxy, AV.cells, List.length_cons, List.length_nil, Nat.beq_refl, AOp.cl, ↓OW_guard, ↓DW_guard, KDW_0, KDW_1, KDW_2, OWskip_eq, DWskip_eq, fillA, setAt, DChk, DAt, stepA, ble_dec, beq_dec, Bool.and_self, Bool.and_true, Bool.true_and, Bool.and_false, Bool.false_and, List.take_succ_cons, List.take_zero, List.drop_succ_cons, List.drop_zero, List.take_nil, List.drop_nil, List.append_nil, eqAV, eqAVL, BEq.rfl, eqA, eqD, sameS, Option.map, Option.isNone, addrA, wrap64, gt_iff_lt, ge_iff_le, Int.lt_irrefl, Int.le_refl]
      refine ⟨h.mk' (by have := s3.1; rw [u11.1, p11.1]; exact this) (by rw [gB b d1 d2, s3.gt n1]) (r7 HB u11) u8 (fun w i => ?_) hd, hE1.then (Evo.of_ch u11 (.inr rfl)) fun _ _ h => h⟩
      rw [hs]
      by_cases hw : w = q
      · subst hw
        rw [fset_same]
        constructor
        · rintro ⟨⟩; rw [fset_ne hab, fset_same]
        · intro hi
          by_cases h1 : i = y
          · subst h1; rw [fset_same] at hi; exact absurd (Option.some.inj hi) hpq
          · rw [fset_ne h1] at hi
            by_cases h2 : i = x
            · rw [h2]
            · rw [fset_ne h2] at hi
              exact absurd (h.inj _ _ _ hi hq) h1
      · rw [fset_ne hw]
        by_cases hw2 : w = p
        · subst hw2
          rw [fset_same]
          constructor
          · rintro ⟨⟩; rw [fset_same]
          · intro hi
            by_cases h1 : i = y
            · rw [h1]
            · rw [fset_ne h1] at hi
              by_cases h2 : i = x
              · subst h2; rw [fset_same] at hi; exact absurd (Option.some.inj hi).symm hw
              · rw [fset_ne h2] at hi
                exact absurd (h.inj _ _ _ hi hp) h2
        · rw [fset_ne hw2, ofG_iff h.inj]
          by_cases h1 : i = y
          · subst h1
            rw [fset_same, hq]
            constructor
            · intro e; exact absurd (Option.some.inj e).symm hw
            · intro e; exact absurd (Option.some.inj e).symm hw2
          · rw [fset_ne h1]
            by_cases h2 : i = x
            · subst h2
              rw [fset_same, hp]
              constructor
              · intro e; exact absurd (Option.some.inj e).symm hw2
              · intro e; exact absurd (Option.some.inj e).symm hw
            · rw [fset_ne h2]
  · have hn : ((g x).isSome && (g y).isSome) = false := by
      cases hx : (g x).isSome <;> cases hy : (g y).isSome <;> simp_all
    have hs : swG g x y = g := by
      unfold swG
      cases hx : g x <;> cases hy : g y <;> simp_all
    rw [hs, hn]
    have hfin : TabR H3 b r1 r2 g ∧ Evo (D2 r1 r2) H H3 := ⟨h.keep s3.1 (s3.gt n1) (s3.gt n2) (s3.gt n3), Evo.of_sm s3⟩
    cases hx : (g x).isSome with
    | false =>
      rw [hx] at e0
      simp -implicitDefEqProofs only [e0, e1, h.lds.1, l1, pl, q1, q5, Bool.false_eq_true, Bool.not_false, Bool.not_true, ↓exA_lookup, ↓stepA_lookup, ↓exA_mapEnt, ↓exA_entSt, ↓exA_delete, ↓exA_mapUpd, LkA_some, EvA_some, entL_some, updM_some, at0, at1, at2, ↓WP_seq, ↓WP_skip, ↓WP_region, ↓WP_dregion, ↓WP_cond, ↓WP_block, ↓WP_exit, ↓WP_ret, ↓OW_nil, ↓OW_cons, ↓DW_nil, ↓DW_cons, ↓XW_call, XW, exA, KO_eq, KD_eq, OptK_some, EvK_some, GW2_true, GW2_false, KS_normal, KS_ret, KS_exit, KB_normal, KB_ret, KB_exit, CP2_bool, RP_ret, RP_normal, putA_some, putA_none, ev_t, ev_c, evs, evo, wantA, initA, resA, Tr.get_set, vl, chkOk, cond_true, cond_false, Nat.add_zero, Nat.mul_one, Nat.one_mul, Nat.zero_add, Nat.zero_mul, aggOf, pInt, binA, unA, intA, beq_true, beq_false, Bool.not_true, Bool.not_false, Bool.not_eq_true, and_self, and_true, true_and, ↓reduceIte, reduceIte, Nat.reduceEqDiff, Nat.succ_ne_self, Nat.reduceAdd, Nat.reduceMul, Nat.reduceSub, Nat.reduceBEq, Nat.reduceLT, Nat.reduceLeDiff, Int.cast_ofNat_Int, Int.reduceToNat, Int.reduceLT, Int.reduceLE, Int.reduceGE, Int.reduceGT, Int.reduceEq, Int.reduceNe, Int.reduceAdd, Int.reduceSub, Int.reduceNeg, decide_true, decide_false, Int.toNat_natCast, reduceCtorEq, List.nil_append, List.cons_append, AV.boxy, AV.cells, List.length_cons, List.length_nil, Nat.beq_refl, AOp.cl, ↓OW_guard, ↓DW_guard, KDW_0, KDW_1, KDW_2, OWskip_eq, DWskip_eq, fillA, setAt, DChk, DAt, stepA, ble_dec, beq_dec, Bool.and_self, Bool.and_true, Bool.true_and, Bool.and_false, Bool.false_and, List.take_succ_cons, List.take_zero, List.drop_succ_cons, List.drop_zero, List.take_nil, List.drop_nil, List.append_nil, eqAV, eqAVL, BEq.rfl, eqA, eqD, sameS, Option.map, Option.isNone, addrA, wrap64, gt_iff_lt, ge_iff_le, Int.lt_irrefl, Int.le_refl]
      exact hfin
    | true =>
      have hy : (g y).isSome = false := by rw [hx] at hn; simpa using hn
      rw [hx] at e0
      rw [hy] at e1
      simp -implicitDefEqProofs only [e0, e1, h.lds.1, l1, pl, q1, q5, Bool.false_eq_true, Bool.not_false, Bool.not_true, ↓exA_lookup, ↓stepA_lookup, ↓exA_mapEnt, ↓exA_entSt, ↓exA_delete, ↓exA_mapUpd, LkA_some, EvA_some, entL_some, updM_some, at0, at1, at2, ↓WP_seq, ↓WP_skip, ↓WP_region, ↓WP_dregion, ↓WP_cond, ↓WP_block, ↓WP_exit, ↓WP_ret, ↓OW_nil, ↓OW_cons, ↓DW_nil, ↓DW_cons, ↓XW_call, XW, exA, KO_eq, KD_eq, OptK_some, EvK_some, GW2_true, GW2_false, KS_normal, KS_ret, KS_exit, KB_normal, KB_ret, KB_exit, CP2_bool, RP_ret, RP_normal, putA_some, putA_none, ev_t, ev_c, evs, evo, wantA, initA, resA, Tr.get_set, vl, chkOk, cond_true, cond_false, Nat.add_zero, Nat.mul_one, Nat.one_mul, Nat.zero_add, Nat.zero_mul, aggOf, pInt, binA, unA, intA, beq_true, beq_false, Bool.not_true, Bool.not_false, Bool.not_eq_true, and_self, and_true, true_and, ↓reduceIte, reduceIte, Nat.reduceEqDiff, Nat.succ_ne_self, Nat.reduceAdd, Nat.reduceMul, Nat.reduceSub, Nat.reduceBEq, Nat.reduceLT, Nat.reduceLeDiff, Int.cast_ofNat_Int, Int.reduceToNat, Int.reduceLT, Int.reduceLE, Int.reduceGE, Int.reduceGT, Int.reduceEq, Int.reduceNe, Int.reduceAdd, Int.reduceSub, Int.reduceNeg, decide_true, decide_false, Int.toNat_natCast, reduceCtorEq, List.nil_append, List.cons_append, AV.boxy, AV.cells, List.length_cons, List.length_nil, Nat.beq_refl, AOp.cl, ↓OW_guard, ↓DW_guard, KDW_0, KDW_1, KDW_2, OWskip_eq, DWskip_eq, fillA, setAt, DChk, DAt, stepA, ble_dec, beq_dec, Bool.and_self, Bool.and_true, Bool.true_and, Bool.and_false, Bool.false_and, List.take_succ_cons, List.take_zero, List.drop_succ_cons, List.drop_zero, List.take_nil, List.drop_nil, List.append_nil, eqAV, eqAVL, BEq.rfl, eqA, eqD, sameS, Option.map, Option.isNone, addrA, wrap64, gt_iff_lt, ge_iff_le, Int.lt_irrefl, Int.le_refl]
      exact hfin
end Go.Proofs.Ytldlolpbnfgdeaa.AA
namespace Go.Proofs.Ytldlolpbnfgdeaa.AA
open Go Go.RowKit
set_option maxRecDepth 100000
set_option maxHeartbeats 2000000
attribute [local irreducible] Tr.set
/-! The reference's table, on the same model. -/
def rc (g : TG) (i : Nat) : AV := if i < 1024 then .bool (g i).isSome else if i % 2 = 0 then .int .i64 ((g (((i - 1024) / 2 : Nat) : Int)).getD (0, 0)).1 else .int .i64 ((g (((i - 1024) / 2 : Nat) : Int)).getD (0, 0)).2
structure RefR (H : AHeap) (b : Nat) (g : TG) : Prop where
  blk : Blk H b 3072 (rc g)
  inj : Inj g
  dom : ∀ i p, g i = some p → 4 ≤ i ∧ i < 1024
theorem RefR.keep {H H' : AHeap} {b : Nat} {g : TG} (h : RefR H b g) (hl : H.next ≤ H'.next) (hb : H'.get b = H.get b) : RefR H' b g := ⟨h.blk.keep' hl hb, h.inj, h.dom⟩
theorem RefR.ldIn {H : AHeap} {b : Nat} {g : TG} (h : RefR H b g) {n : Int} (h0 : 0 ≤ n) (h1 : n < 1024) : loadA H b n.toNat 1 = some [.bool (g n).isSome] := by
  have := h.blk.load (i := n.toNat) (by omega)
  rw [this, rc, if_pos (by omega), Int.toNat_of_nonneg h0]
theorem rc_at {g : TG} {n : Int} (h0 : 0 ≤ n) : rc g (1024 + n.toNat * 2) = .int .i64 ((g n).getD (0, 0)).1 ∧ rc g (1024 + n.toNat * 2 + 1) = .int .i64 ((g n).getD (0, 0)).2 := by
  have e1 : (1024 + n.toNat * 2 - 1024) / 2 = n.toNat := by omega
  have e2 : (1024 + n.toNat * 2 + 1 - 1024) / 2 = n.toNat := by omega
  unfold rc
  rw [if_neg (by omega), if_pos (by omega), if_neg (by omega), if_neg (by omega), e1, e2, Int.toNat_of_nonneg h0]
  exact ⟨rfl, rfl⟩
theorem RefR.ldAt {H : AHeap} {b : Nat} {g : TG} (h : RefR H b g) {n : Int} (h0 : 0 ≤ n) (h1 : n < 1024) : loadA H b (1024 + n.toNat * 2) 2 = some [.int .i64 ((g n).getD (0, 0)).1, .int .i64 ((g n).getD (0, 0)).2] := by
  rw [h.blk.load2 (i := 1024 + n.toNat * 2) (by omega), (rc_at h0).1, (rc_at h0).2]
theorem binA_two {a b c d : Int} : binA .eql (.parts [(0, 1, .sc .int), (1, 1, .sc .int)]) (.agg [.int .i64 a, .int .i64 b]) (.agg [.int .i64 c, .int .i64 d]) = some (.bool (decide ((a, b) = (c, d)))) := by
  have := keyed_two.eq (a, b) (c, d)
  simp only [pl] at this
  simp only [binA, this, Option.map]
theorem c_Has {H : AHeap} {b : Nat} {g : TG} (h : RefR H b g) (n : Int) : CW MT 96 [.ptr (some (b, 0)), .int .i64 n] H fun v H' => v = .bool (g n).isSome ∧ H' = H := by
  refine CW_of (fn := af96) rfl ?_
  unfold af96
  have hno : ¬ (0 ≤ n ∧ n < 1024) → (g n).isSome = false := fun h' => by
    cases hg : g n with
    | none => rfl
    | some p => have := h.dom n p hg; omega
  by_cases h0 : 0 ≤ n
  · by_cases h1 : n < 1024
    · simp -implicitDefEqProofs only [h0, h1, h.ldIn h0 h1, Bool.false_eq_true, ↓WP_seq, ↓WP_skip, ↓WP_region, ↓WP_dregion, ↓WP_cond, ↓WP_block, ↓WP_exit, ↓WP_ret, ↓OW_nil, ↓OW_cons, ↓DW_nil, ↓DW_cons, ↓XW_call, XW, exA, KO_eq, KD_eq, OptK_some, EvK_some, GW2_true, GW2_false, KS_normal, KS_ret, KS_exit, KB_normal, KB_ret, KB_exit, CP2_bool, RP_ret, RP_normal, putA_some, putA_none, ev_t, ev_c, evs, evo, wantA, initA, resA, Tr.get_set, vl, chkOk, cond_true, cond_false, Nat.add_zero, Nat.mul_one, Nat.one_mul, Nat.zero_add, Nat.zero_mul, aggOf, pInt, binA, unA, intA, beq_true, beq_false, Bool.not_true, Bool.not_false, Bool.not_eq_true, and_self, and_true, true_and, ↓reduceIte, reduceIte, Nat.reduceEqDiff, Nat.succ_ne_self, Nat.reduceAdd, Nat.reduceMul, Nat.reduceSub, Nat.reduceBEq, Nat.reduceLT, Nat.reduceLeDiff, Int.cast_ofNat_Int, Int.reduceToNat, Int.reduceLT, Int.reduceLE, Int.reduceGE, Int.reduceGT, Int.reduceEq, Int.reduceNe, Int.reduceAdd, Int.reduceSub, Int.reduceNeg, decide_true, decide_false, Int.toNat_natCast, reduceCtorEq, List.nil_append, List.cons_append, AV.boxy, AV.cells, List.length_cons, List.length_nil, Nat.beq_refl, AOp.cl, ↓OW_guard, ↓DW_guard, KDW_0, KDW_1, KDW_2, OWskip_eq, DWskip_eq, fillA, setAt, DChk, DAt, stepA, ble_dec, beq_dec, Bool.and_self, Bool.and_true, Bool.true_and, Bool.and_false, Bool.false_and, List.take_succ_cons, List.take_zero, List.drop_succ_cons, List.drop_zero, List.take_nil, List.drop_nil, List.append_nil, eqAV, eqAVL, BEq.rfl, eqA, eqD, sameS, Option.map, Option.isNone, addrA, wrap64, gt_iff_lt, ge_iff_le, Int.lt_irrefl, Int.le_refl]
    · rw [hno (by omega)]
      simp -implicitDefEqProofs only [h0, h1, Bool.false_eq_true, ↓WP_seq, ↓WP_skip, ↓WP_region, ↓WP_dregion, ↓WP_cond, ↓WP_block, ↓WP_exit, ↓WP_ret, ↓OW_nil, ↓OW_cons, ↓DW_nil, ↓DW_cons, ↓XW_call, XW, exA, KO_eq, KD_eq, OptK_some, EvK_some, GW2_true, GW2_false, KS_normal, KS_ret, KS_exit, KB_normal, KB_ret, KB_exit, CP2_bool, RP_ret, RP_normal, putA_some, putA_none, ev_t, ev_c, evs, evo, wantA, initA, resA, Tr.get_set, vl, chkOk, cond_true, cond_false, Nat.add_zero, Nat.mul_one, Nat.one_mul, Nat.zero_add, Nat.zero_mul, aggOf, pInt, binA, unA, intA, beq_true, beq_false, Bool.not_true, Bool.not_false, Bool.not_eq_true, and_self, and_true, true_and, ↓reduceIte, reduceIte, Nat.reduceEqDiff, Nat.succ_ne_self, Nat.reduceAdd, Nat.reduceMul, Nat.reduceSub, Nat.reduceBEq, Nat.reduceLT, Nat.reduceLeDiff, Int.cast_ofNat_Int, Int.reduceToNat, Int.reduceLT, Int.reduceLE, Int.reduceGE, Int.reduceGT, Int.reduceEq, Int.reduceNe, Int.reduceAdd, Int.reduceSub, Int.reduceNeg, decide_true, decide_false, Int.toNat_natCast, reduceCtorEq, List.nil_append, List.cons_append, AV.boxy, AV.cells, List.length_cons, List.length_nil, Nat.beq_refl, AOp.cl, ↓OW_guard, ↓DW_guard, KDW_0, KDW_1, KDW_2, OWskip_eq, DWskip_eq, fillA, setAt, DChk, DAt, stepA, ble_dec, beq_dec, Bool.and_self, Bool.and_true, Bool.true_and, Bool.and_false, Bool.false_and, List.take_succ_cons, List.take_zero, List.drop_succ_cons, List.drop_zero, List.take_nil, List.drop_nil, List.append_nil, eqAV, eqAVL, BEq.rfl, eqA, eqD, sameS, Option.map, Option.isNone, addrA, wrap64, gt_iff_lt, ge_iff_le, Int.lt_irrefl, Int.le_refl]
  · rw [hno (by omega)]
    simp -implicitDefEqProofs only [h0, Bool.false_eq_true, ↓WP_seq, ↓WP_skip, ↓WP_region, ↓WP_dregion, ↓WP_cond, ↓WP_block, ↓WP_exit, ↓WP_ret, ↓OW_nil, ↓OW_cons, ↓DW_nil, ↓DW_cons, ↓XW_call, XW, exA, KO_eq, KD_eq, OptK_some, EvK_some, GW2_true, GW2_false, KS_normal, KS_ret, KS_exit, KB_normal, KB_ret, KB_exit, CP2_bool, RP_ret, RP_normal, putA_some, putA_none, ev_t, ev_c, evs, evo, wantA, initA, resA, Tr.get_set, vl, chkOk, cond_true, cond_false, Nat.add_zero, Nat.mul_one, Nat.one_mul, Nat.zero_add, Nat.zero_mul, aggOf, pInt, binA, unA, intA, beq_true, beq_false, Bool.not_true, Bool.not_false, Bool.not_eq_true, and_self, and_true, true_and, ↓reduceIte, reduceIte, Nat.reduceEqDiff, Nat.succ_ne_self, Nat.reduceAdd, Nat.reduceMul, Nat.reduceSub, Nat.reduceBEq, Nat.reduceLT, Nat.reduceLeDiff, Int.cast_ofNat_Int, Int.reduceToNat, Int.reduceLT, Int.reduceLE, Int.reduceGE, Int.reduceGT, Int.reduceEq, Int.reduceNe, Int.reduceAdd, Int.reduceSub, Int.reduceNeg, decide_true, decide_false, Int.toNat_natCast, reduceCtorEq, List.nil_append, List.cons_append, AV.boxy, AV.cells, List.length_cons, List.length_nil, Nat.beq_refl, AOp.cl, ↓OW_guard, ↓DW_guard, KDW_0, KDW_1, KDW_2, OWskip_eq, DWskip_eq, fillA, setAt, DChk, DAt, stepA, ble_dec, beq_dec, Bool.and_self, Bool.and_true, Bool.true_and, Bool.and_false, Bool.false_and, List.take_succ_cons, List.take_zero, List.drop_succ_cons, List.drop_zero, List.take_nil, List.drop_nil, List.append_nil, eqAV, eqAVL, BEq.rfl, eqA, eqD, sameS, Option.map, Option.isNone, addrA, wrap64, gt_iff_lt, ge_iff_le, Int.lt_irrefl, Int.le_refl]
theorem c_OfR {H : AHeap} {b : Nat} {g : TG} (h : RefR H b g) (x y : Int) : CW MT 97 [.ptr (some (b, 0)), .agg [.int .i64 x, .int .i64 y]] H fun v H' => v = .tuple [.int .i64 ((ofG g (x, y)).getD 0), .bool (ofG g (x, y)).isSome] ∧ Chg H H' none := by
  refine CW_of (fn := af97) rfl ?_
  unfold af97
  have s1 := Chg.newRow H [.int .i64 x, .int .i64 y]
  have b1 := Rd.newRow H [.int .i64 x, .int .i64 y]
  generalize eH1 : H.newRow [.int .i64 x, .int .i64 y] = H1 at s1 b1
  have l1 := b1.load (n := 2) rfl
  have h1 := h.keep s1.1 (s1.gt h.blk.1)
  simp -implicitDefEqProofs only [eH1, ↓WP_seq, ↓WP_skip, ↓WP_region, ↓WP_dregion, ↓WP_cond, ↓WP_block, ↓WP_exit, ↓WP_ret, ↓OW_nil, ↓OW_cons, ↓DW_nil, ↓DW_cons, ↓XW_call, XW, exA, KO_eq, KD_eq, OptK_some, EvK_some, GW2_true, GW2_false, KS_normal, KS_ret, KS_exit, KB_normal, KB_ret, KB_exit, CP2_bool, RP_ret, RP_normal, putA_some, putA_none, ev_t, ev_c, evs, evo, wantA, initA, resA, Tr.get_set, vl, chkOk, cond_true, cond_false, Nat.add_zero, Nat.mul_one, Nat.one_mul, Nat.zero_add, Nat.zero_mul, aggOf, pInt, binA, unA, intA, beq_true, beq_false, Bool.not_true, Bool.not_false, Bool.not_eq_true, and_self, and_true, true_and, ↓reduceIte, reduceIte, Nat.reduceEqDiff, Nat.succ_ne_self, Nat.reduceAdd, Nat.reduceMul, Nat.reduceSub, Nat.reduceBEq, Nat.reduceLT, Nat.reduceLeDiff, Int.cast_ofNat_Int, Int.reduceToNat, Int.reduceLT, Int.reduceLE, Int.reduceGE, Int.reduceGT, Int.reduceEq, Int.reduceNe, Int.reduceAdd, Int.reduceSub, Int.reduceNeg, decide_true, decide_false, Int.toNat_natCast, reduceCtorEq, List.nil_append, List.cons_append, AV.boxy, AV.cells, List.length_cons, List.length_nil, Nat.beq_refl, AOp.cl, ↓OW_guard, ↓DW_guard, KDW_0, KDW_1, KDW_2, OWskip_eq, DWskip_eq, fillA, setAt, DChk, DAt, stepA, ble_dec, beq_dec, Bool.and_self, Bool.and_true, Bool.true_and, Bool.and_false, Bool.false_and, List.take_succ_cons, List.take_zero, List.drop_succ_cons, List.drop_zero, List.take_nil, List.drop_nil, List.append_nil, eqAV, eqAVL, BEq.rfl, eqA, eqD, sameS, Option.map, Option.isNone, addrA, wrap64, gt_iff_lt, ge_iff_le, Int.lt_irrefl, Int.le_refl]
  refine WP_loop (fun n fr H' => ∃ i : Int, n = (1024 - i).toNat ∧ 4 ≤ i ∧ i ≤ 1024 ∧ (∀ j, 4 ≤ j → j < i → g j ≠ some (x, y)) ∧ fr.get 0 = some (.ptr (some (b, 0))) ∧ fr.get 3 = some (.ptr (some (H.next, 0))) ∧ fr.get 6 = some (.int .i64 i) ∧ H' = H1) 1020 ?_ ?_
  · refine ⟨4, rfl, by omega, by omega, fun j h1 h2 => by omega, ?_⟩
    simp -implicitDefEqProofs only [↓WP_seq, ↓WP_skip, ↓WP_region, ↓WP_dregion, ↓WP_cond, ↓WP_block, ↓WP_exit, ↓WP_ret, ↓OW_nil, ↓OW_cons, ↓DW_nil, ↓DW_cons, ↓XW_call, XW, exA, KO_eq, KD_eq, OptK_some, EvK_some, GW2_true, GW2_false, KS_normal, KS_ret, KS_exit, KB_normal, KB_ret, KB_exit, CP2_bool, RP_ret, RP_normal, putA_some, putA_none, ev_t, ev_c, evs, evo, wantA, initA, resA, Tr.get_set, vl, chkOk, cond_true, cond_false, Nat.add_zero, Nat.mul_one, Nat.one_mul, Nat.zero_add, Nat.zero_mul, aggOf, pInt, binA, unA, intA, beq_true, beq_false, Bool.not_true, Bool.not_false, Bool.not_eq_true, and_self, and_true, true_and, ↓reduceIte, reduceIte, Nat.reduceEqDiff, Nat.succ_ne_self, Nat.reduceAdd, Nat.reduceMul, Nat.reduceSub, Nat.reduceBEq, Nat.reduceLT, Nat.reduceLeDiff, Int.cast_ofNat_Int, Int.reduceToNat, Int.reduceLT, Int.reduceLE, Int.reduceGE, Int.reduceGT, Int.reduceEq, Int.reduceNe, Int.reduceAdd, Int.reduceSub, Int.reduceNeg, decide_true, decide_false, Int.toNat_natCast, reduceCtorEq, List.nil_append, List.cons_append, AV.boxy, AV.cells, List.length_cons, List.length_nil, Nat.beq_refl, AOp.cl, ↓OW_guard, ↓DW_guard, KDW_0, KDW_1, KDW_2, OWskip_eq, DWskip_eq, fillA, setAt, DChk, DAt, stepA, ble_dec, beq_dec, Bool.and_self, Bool.and_true, Bool.true_and, Bool.and_false, Bool.false_and, List.take_succ_cons, List.take_zero, List.drop_succ_cons, List.drop_zero, List.take_nil, List.drop_nil, List.append_nil, eqAV, eqAVL, BEq.rfl, eqA, eqD, sameS, Option.map, Option.isNone, addrA, wrap64, gt_iff_lt, ge_iff_le, Int.lt_irrefl, Int.le_refl]
  · rintro n fr H2 ⟨i, hn, hi1, hi2, hlo, g0, g3, g6, rfl⟩
    by_cases hlt : i < 1024
    · have i0 : 0 ≤ i := by omega
      have a1 := h1.ldIn i0 hlt
      have a2 := h1.ldAt i0 hlt
      have hw : IntKind.i64.wrap (i + 1) = i + 1 := wrap64 (by omega) (by omega)
      have nxt : g i ≠ some (x, y) → ∃ m, m < n ∧ ∃ i', m = (1024 - i').toNat ∧ 4 ≤ i' ∧ i' ≤ 1024 ∧ (∀ j, 4 ≤ j → j < i' → g j ≠ some (x, y)) ∧ i + 1 = i' := fun hne => by
        refine ⟨(1024 - (i + 1)).toNat, by omega, i + 1, rfl, by omega, by omega, fun j h1 h2 => ?_, rfl⟩
        by_cases hj : j = i
        · subst hj; exact hne
        · exact hlo j h1 (by omega)
      cases hg : g i with
      | none =>
        rw [hg] at a1 a2 nxt
        obtain ⟨m, hm, i', e1, e2, e3, e4, e5⟩ := nxt (by simp)
        simp -implicitDefEqProofs only [g0, g3, g6, i0, hlt, a1, hw, Option.isSome_none, Bool.false_eq_true, ↓WP_seq, ↓WP_skip, ↓WP_region, ↓WP_dregion, ↓WP_cond, ↓WP_block, ↓WP_exit, ↓WP_ret, ↓OW_nil, ↓OW_cons, ↓DW_nil, ↓DW_cons, ↓XW_call, XW, exA, KO_eq, KD_eq, OptK_some, EvK_some, GW2_true, GW2_false, KS_normal, KS_ret, KS_exit, KB_normal, KB_ret, KB_exit, CP2_bool, RP_ret, RP_normal, putA_some, putA_none, ev_t, ev_c, evs, evo, wantA, initA, resA, Tr.get_set, vl, chkOk, cond_true, cond_false, Nat.add_zero, Nat.mul_one, Nat.one_mul, Nat.zero_add, Nat.zero_mul, aggOf, pInt, binA, unA, intA, beq_true, beq_false, Bool.not_true, Bool.not_false, Bool.not_eq_true, and_self, and_true, true_and, ↓reduceIte, reduceIte, Nat.reduceEqDiff, Nat.succ_ne_self, Nat.reduceAdd, Nat.reduceMul, Nat.reduceSub, Nat.reduceBEq, Nat.reduceLT, Nat.reduceLeDiff, Int.cast_ofNat_Int, Int.reduceToNat, Int.reduceLT, Int.reduceLE, Int.reduceGE, Int.reduceGT, Int.reduceEq, Int.reduceNe, Int.reduceAdd, Int.reduceSub, Int.reduceNeg, decide_true, decide_false, Int.toNat_natCast, reduceCtorEq, List.nil_append, List.cons_append, AV.boxy, AV.cells, List.length_cons, List.length_nil, Nat.beq_refl, AOp.cl, ↓OW_guard, ↓DW_guard, KDW_0, KDW_1, KDW_2, OWskip_eq, DWskip_eq, fillA, setAt, DChk, DAt, stepA, ble_dec, beq_dec, Bool.and_self, Bool.and_true, Bool.true_and, Bool.and_false, Bool.false_and, List.take_succ_cons, List.take_zero, List.drop_succ_cons, List.drop_zero, List.take_nil, List.drop_nil, List.append_nil, eqAV, eqAVL, BEq.rfl, eqA, eqD, sameS, Option.map, Option.isNone, addrA, wrap64, gt_iff_lt, ge_iff_le, Int.lt_irrefl, Int.le_refl]
        exact ⟨m, hm, i', e1, e2, e3, e4, by rw [e5]⟩
      | some p =>
        rw [hg] at a1 a2 nxt
        simp -implicitDefEqProofs only [Option.getD_some] at a2
        by_cases hp : p = (x, y)
        · have hp' : (p.1, p.2) = (x, y) := hp
          subst hp
          have ho := (ofG_iff h.inj (x, y) i).2 hg
          rw [ho]
          simp -implicitDefEqProofs only [g0, g3, g6, i0, hlt, l1, a1, a2, Option.isSome_some, ↓binA_two, ↓WP_seq, ↓WP_skip, ↓WP_region, ↓WP_dregion, ↓WP_cond, ↓WP_block, ↓WP_exit, ↓WP_ret, ↓OW_nil, ↓OW_cons, ↓DW_nil, ↓DW_cons, ↓XW_call, XW, exA, KO_eq, KD_eq, OptK_some, EvK_some, GW2_true, GW2_false, KS_normal, KS_ret, KS_exit, KB_normal, KB_ret, KB_exit, CP2_bool, RP_ret, RP_normal, putA_some, putA_none, ev_t, ev_c, evs, evo, wantA, initA, resA, Tr.get_set, vl, chkOk, cond_true, cond_false, Nat.add_zero, Nat.mul_one, Nat.one_mul, Nat.zero_add, Nat.zero_mul, aggOf, pInt, binA, unA, intA, beq_true, beq_false, Bool.not_true, Bool.not_false, Bool.not_eq_true, and_self, and_true, true_and, ↓reduceIte, reduceIte, Nat.reduceEqDiff, Nat.succ_ne_self, Nat.reduceAdd, Nat.reduceMul, Nat.reduceSub, Nat.reduceBEq, Nat.reduceLT, Nat.reduceLeDiff, Int.cast_ofNat_Int, Int.reduceToNat, Int.reduceLT, Int.reduceLE, Int.reduceGE, Int.reduceGT, Int.reduceEq, Int.reduceNe, Int.reduceAdd, Int.reduceSub, Int.reduceNeg, decide_true, decide_false, Int.toNat_natCast, reduceCtorEq, List.nil_append, List.cons_append, AV.boxy, AV.cells, List.length_cons, List.length_nil, Nat.beq_refl, AOp.cl, ↓OW_guard, ↓DW_guard, KDW_0, KDW_1, KDW_2, OWskip_eq, DWskip_eq, fillA, setAt, DChk, DAt, stepA, ble_dec, beq_dec, Bool.and_self, Bool.and_true, Bool.true_and, Bool.and_false, Bool.false_and, List.take_succ_cons, List.take_zero, List.drop_succ_cons, List.drop_zero, List.take_nil, List.drop_nil, List.append_nil, eqAV, eqAVL, BEq.rfl, eqA, eqD, sameS, Option.map, Option.isNone, addrA, wrap64, gt_iff_lt, ge_iff_le, Int.lt_irrefl, Int.le_refl]
          exact ⟨rfl, s1⟩
        · have hp' : ¬ (p.1, p.2) = (x, y) := hp
          obtain ⟨m, hm, i', e1, e2, e3, e4, e5⟩ := nxt (by simpa using hp)
          simp -implicitDefEqProofs only [g0, g3, g6, i0, hlt, l1, a1, a2, hp', hw, Option.isSome_some, ↓binA_two, Bool.false_eq_true, ↓WP_seq, ↓WP_skip, ↓WP_region, ↓WP_dregion, ↓WP_cond, ↓WP_block, ↓WP_exit, ↓WP_ret, ↓OW_nil, ↓OW_cons, ↓DW_nil, ↓DW_cons, ↓XW_call, XW, exA, KO_eq, KD_eq, OptK_some, EvK_some, GW2_true, GW2_false, KS_normal, KS_ret, KS_exit, KB_normal, KB_ret, KB_exit, CP2_bool, RP_ret, RP_normal, putA_some, putA_none, ev_t, ev_c, evs, evo, wantA, initA, resA, Tr.get_set, vl, chkOk, cond_true, cond_false, Nat.add_zero, Nat.mul_one, Nat.one_mul, Nat.zero_add, Nat.zero_mul, aggOf, pInt, binA, unA, intA, beq_true, beq_false, Bool.not_true, Bool.not_false, Bool.not_eq_true, and_self, and_true, true_and, ↓reduceIte, reduceIte, Nat.reduceEqDiff, Nat.succ_ne_self, Nat.reduceAdd, Nat.reduceMul, Nat.reduceSub, Nat.reduceBEq, Nat.reduceLT, Nat.reduceLeDiff, Int.cast_ofNat_Int, Int.reduceToNat, Int.reduceLT, Int.reduceLE, Int.reduceGE, Int.reduceGT, Int.reduceEq, Int.reduceNe, Int.reduceAdd, Int.reduceSub, Int.reduceNeg, decide_true, decide_false, Int.toNat_natCast, reduceCtorEq, List.nil_append, List.cons_append, AV.boxy, AV.cells, List.length_cons, List.length_nil, Nat.beq_refl, AOp.cl, ↓OW_guard, ↓DW_guard, KDW_0, KDW_1, KDW_2, OWskip_eq, DWskip_eq, fillA, setAt, DChk, DAt, stepA, ble_dec, beq_dec, Bool.and_self, Bool.and_true, Bool.true_and, Bool.and_false, Bool.false_and, List.take_succ_cons, List.take_zero, List.drop_succ_cons, List.drop_zero, List.take_nil, List.drop_nil, List.append_nil, eqAV, eqAVL, BEq.rfl, eqA, eqD, sameS, Option.map, Option.isNone, addrA, wrap64, gt_iff_lt, ge_iff_le, Int.lt_irrefl, Int.le_refl]
          exact ⟨m, hm, i', e1, e2, e3, e4, by rw [e5]⟩
    · have hno : ofG g (x, y) = none := by
        cases ho : ofG g (x, y) with
        | none => rfl
        | some j =>
          have hj := (ofG_iff h.inj (x, y) j).1 ho
          have := h.dom j _ hj
          exact absurd hj (hlo j this.1 (by omega))
      rw [hno]
      simp -implicitDefEqProofs only [g0, g3, g6, hlt, Bool.false_eq_true, ↓WP_seq, ↓WP_skip, ↓WP_region, ↓WP_dregion, ↓WP_cond, ↓WP_block, ↓WP_exit, ↓WP_ret, ↓OW_nil, ↓OW_cons, ↓DW_nil, ↓DW_cons, ↓XW_call, XW, exA, KO_eq, KD_eq, OptK_some, EvK_some, GW2_true, GW2_false, KS_normal, KS_ret, KS_exit, KB_normal, KB_ret, KB_exit, CP2_bool, RP_ret, RP_normal, putA_some, putA_none, ev_t, ev_c, evs, evo, wantA, initA, resA, Tr.get_set, vl, chkOk, cond_true, cond_false, Nat.add_zero, Nat.mul_one, Nat.one_mul, Nat.zero_add, Nat.zero_mul, aggOf, pInt, binA, unA, intA, beq_true, beq_false, Bool.not_true, Bool.not_false, Bool.not_eq_true, and_self, and_true, true_and, ↓reduceIte, reduceIte, Nat.reduceEqDiff, Nat.succ_ne_self, Nat.reduceAdd, Nat.reduceMul, Nat.reduceSub, Nat.reduceBEq, Nat.reduceLT, Nat.reduceLeDiff, Int.cast_ofNat_Int, Int.reduceToNat, Int.reduceLT, Int.reduceLE, Int.reduceGE, Int.reduceGT, Int.reduceEq, Int.reduceNe, Int.reduceAdd, Int.reduceSub, Int.reduceNeg, decide_true, decide_false, Int.toNat_natCast, reduceCtorEq, List.nil_append, List.cons_append, AV.boxy, AV.cells, List.length_cons, List.length_nil, Nat.beq_refl, AOp.cl, ↓OW_guard, ↓DW_guard, KDW_0, KDW_1, KDW_2, OWskip_eq, DWskip_eq, fillA, setAt, DChk, DAt, stepA, ble_dec, beq_dec, Bool.and_self, Bool.and_true, Bool.true_and, Bool.and_false, Bool.false_and, List.take_succ_cons, List.take_zero, List.drop_succ_cons, List.drop_zero, List.take_nil, List.drop_nil, List.append_nil, eqAV, eqAVL, BEq.rfl, eqA, eqD, sameS, Option.map, Option.isNone, addrA, wrap64, gt_iff_lt, ge_iff_le, Int.lt_irrefl, Int.le_refl]
      exact ⟨rfl, s1⟩
end Go.Proofs.Ytldlolpbnfgdeaa.AA
namespace Go.Proofs.Ytldlolpbnfgdeaa.AA
open Go Go.RowKit
set_option maxRecDepth 100000
set_option maxHeartbeats 2000000
attribute [local irreducible] Tr.set
theorem updL_in {f : Nat → AV} {i : Nat} {vs : List AV} {j : Nat} {v : AV} (h : i ≤ j) (e : vs[j - i]? = some v) : updL f i vs j = v := by
  unfold updL; rw [if_pos h, e]
theorem updL_out {f : Nat → AV} {i : Nat} {vs : List AV} {j : Nat} (h : j < i ∨ i + vs.length ≤ j) : updL f i vs j = f j := by
  unfold updL
  split
  · have : vs[j - i]? = none := List.getElem?_eq_none (by omega)
    rw [this]
  · rfl
theorem rc_set {g : TG} {n : Int} (h0 : 0 ≤ n) (h1 : n < 1024) (v : Option Pl) (i : Nat) : updL (updL (rc g) n.toNat [.bool v.isSome]) (1024 + n.toNat * 2) [.int .i64 (v.getD (0, 0)).1, .int .i64 (v.getD (0, 0)).2] i = rc (fset g n v) i := by
  by_cases c1 : i < 1024
  · rw [updL_out (by simp; omega)]
    by_cases c2 : i = n.toNat
    · subst c2
      rw [updL_in (v := .bool v.isSome) (Nat.le_refl _) (by simp)]
      unfold rc
      rw [if_pos (by omega), Int.toNat_of_nonneg h0, fset_same]
    · rw [updL_out (by simp; omega)]
      unfold rc
      rw [if_pos c1, if_pos c1, fset_ne (by omega)]
  · by_cases c2 : (i - 1024) / 2 = n.toNat
    · by_cases c3 : i % 2 = 0
      · rw [updL_in (v := .int .i64 (v.getD (0, 0)).1) (by omega) (by rw [show i - (1024 + n.toNat * 2) = 0 by omega]; rfl)]
        unfold rc
        rw [if_neg c1, if_pos c3, c2, Int.toNat_of_nonneg h0, fset_same]
      · rw [updL_in (v := .int .i64 (v.getD (0, 0)).2) (by omega) (by rw [show i - (1024 + n.toNat * 2) = 1 by omega]; rfl)]
        unfold rc
        rw [if_neg c1, if_neg c3, c2, Int.toNat_of_nonneg h0, fset_same]
    · rw [updL_out (by simp; omega), updL_out (by simp; omega)]
      unfold rc
      rw [if_neg c1, if_neg c1, fset_ne (by omega)]
theorem rc_swap {g : TG} {a c : Int} {p q : Pl} (ha : g a = some p) (hc : g c = some q) (a0 : 0 ≤ a) (a1 : a < 1024) (c0 : 0 ≤ c) (c1 : c < 1024) (i : Nat) : updL (updL (rc g) (1024 + a.toNat * 2) [.int .i64 q.1, .int .i64 q.2]) (1024 + c.toNat * 2) [.int .i64 p.1, .int .i64 p.2] i = rc (swG g a c) i := by
  have hs : swG g a c = fset (fset g a (some q)) c (some p) := by unfold swG; rw [ha, hc]
  rw [hs]
  by_cases b1 : i < 1024
  · rw [updL_out (by simp; omega), updL_out (by simp; omega)]
    unfold rc
    rw [if_pos b1, if_pos b1]
    by_cases e1 : (i : Int) = c
    · rw [e1, fset_same, hc]; rfl
    · rw [fset_ne e1]
      by_cases e2 : (i : Int) = a
      · rw [e2, fset_same, ha]; rfl
      · rw [fset_ne e2]
  · by_cases e1 : (i - 1024) / 2 = c.toNat
    · by_cases c3 : i % 2 = 0
      · rw [updL_in (v := .int .i64 p.1) (by omega) (by rw [show i - (1024 + c.toNat * 2) = 0 by omega]; rfl)]
        unfold rc
        rw [if_neg b1, if_pos c3, e1, Int.toNat_of_nonneg c0, fset_same]; rfl
      · rw [updL_in (v := .int .i64 p.2) (by omega) (by rw [show i - (1024 + c.toNat * 2) = 1 by omega]; rfl)]
        unfold rc
        rw [if_neg b1, if_neg c3, e1, Int.toNat_of_nonneg c0, fset_same]; rfl
    · rw [updL_out (by simp; omega)]
      by_cases e2 : (i - 1024) / 2 = a.toNat
      · by_cases c3 : i % 2 = 0
        · rw [updL_in (v := .int .i64 q.1) (by omega) (by rw [show i - (1024 + a.toNat * 2) = 0 by omega]; rfl)]
          unfold rc
          rw [if_neg b1, if_pos c3, e2, Int.toNat_of_nonneg a0, fset_ne (by omega), fset_same]; rfl
        · rw [updL_in (v := .int .i64 q.2) (by omega) (by rw [show i - (1024 + a.toNat * 2) = 1 by omega]; rfl)]
          unfold rc
          rw [if_neg b1, if_neg c3, e2, Int.toNat_of_nonneg a0, fset_ne (by omega), fset_same]; rfl
      · rw [updL_out (by simp; omega)]
        unfold rc
        rw [if_neg b1, if_neg b1, fset_ne (by omega), fset_ne (by omega)]
theorem inj_none {g : TG} (h : Inj g) (n : Int) : Inj (fset g n none) := by
  intro i j p h1 h2
  by_cases e1 : i = n
  · subst e1; rw [fset_same] at h1; cases h1
  · by_cases e2 : j = n
    · subst e2; rw [fset_same] at h2; cases h2
    · rw [fset_ne e1] at h1
      rw [fset_ne e2] at h2
      exact h i j p h1 h2
theorem inj_some {g : TG} (h : Inj g) (n : Int) {p : Pl} (hp : ∀ j, g j ≠ some p) : Inj (fset g n (some p)) := by
  intro i j q h1 h2
  by_cases e1 : i = n
  · by_cases e2 : j = n
    · rw [e1, e2]
    · subst e1
      rw [fset_same] at h1
      rw [fset_ne e2, ← h1] at h2
      exact absurd h2 (hp j)
  · rw [fset_ne e1] at h1
    by_cases e2 : j = n
    · subst e2
      rw [fset_same] at h2
      rw [← h2] at h1
      exact absurd h1 (hp i)
    · rw [fset_ne e2] at h2
      exact h i j q h1 h2
theorem inj_swap {g : TG} (h : Inj g) (a c : Int) : Inj (swG g a c) := by
  unfold swG
  cases ha : g a with
  | none => exact h
  | some p =>
    cases hc : g c with
    | none => exact h
    | some q =>
      -- at i, the swapped table has what g has at the other one
      have key : ∀ i, fset (fset g a (some q)) c (some p) i = g (if i = c then a else if i = a then c else i) := by
        intro i
        by_cases e1 : i = c
        · rw [if_pos e1, e1, fset_same, ha]
        · rw [if_neg e1, fset_ne e1]
          by_cases e2 : i = a
          · rw [if_pos e2, e2, fset_same, hc]
          · rw [if_neg e2, fset_ne e2]
      intro i j r h1 h2
      dsimp only at h1 h2
      rw [key] at h1 h2
      have := h _ _ r h1 h2
      by_cases e1 : i = c <;> by_cases e2 : j = c <;> by_cases e3 : i = a <;> by_cases e4 : j = a <;> simp_all
theorem RefR.wr {H : AHeap} {b : Nat} {g : TG} (h : RefR H b g) {n : Int} (h0 : 4 ≤ n) (h1 : n < 1024) (v : Option Pl) (hi : Inj (fset g n v)) : ∃ H1 H2, storeA H b n.toNat [.bool v.isSome] = some H1 ∧ storeA H1 b (1024 + n.toNat * 2) [.int .i64 (v.getD (0, 0)).1, .int .i64 (v.getD (0, 0)).2] = some H2 ∧ RefR H2 b (fset g n v) ∧ Ch b H H1 ∧ Ch b H H2 := by
  obtain ⟨H1, a1, a2, a3⟩ := h.blk.stores (i := n.toNat) (vs := [.bool v.isSome]) (by simp; omega)
  obtain ⟨H2, b1, b2, b3⟩ := a2.stores (i := 1024 + n.toNat * 2) (vs := [.int .i64 (v.getD (0, 0)).1, .int .i64 (v.getD (0, 0)).2]) (by simp; omega)
  refine ⟨H1, H2, a1, b1, ⟨b2.congr fun i _ => rc_set (by omega) h1 v i, hi, fun i p hp => ?_⟩, a3, a3.trans b3⟩
  by_cases e : i = n
  · subst e; exact ⟨h0, h1⟩
  · rw [fset_ne e] at hp; exact h.dom i p hp
theorem RefR.sw {H : AHeap} {b : Nat} {g : TG} (h : RefR H b g) {a c : Int} {p q : Pl} (ha : g a = some p) (hc : g c = some q) : ∃ H1 H2, storeA H b (1024 + a.toNat * 2) [.int .i64 q.1, .int .i64 q.2] = some H1 ∧ storeA H1 b (1024 + c.toNat * 2) [.int .i64 p.1, .int .i64 p.2] = some H2 ∧ RefR H2 b (swG g a c) ∧ Ch b H H1 ∧ Ch b H H2 := by
  have da := h.dom a p ha
  have dc := h.dom c q hc
  obtain ⟨H1, a1, a2, a3⟩ := h.blk.stores (i := 1024 + a.toNat * 2) (vs := [.int .i64 q.1, .int .i64 q.2]) (by simp; omega)
  obtain ⟨H2, b1, b2, b3⟩ := a2.stores (i := 1024 + c.toNat * 2) (vs := [.int .i64 p.1, .int .i64 p.2]) (by simp; omega)
  refine ⟨H1, H2, a1, b1, ⟨b2.congr fun i _ => rc_swap ha hc (by omega) da.2 (by omega) dc.2 i, inj_swap h.inj a c, fun i r hr => ?_⟩, a3, a3.trans b3⟩
  have hs : swG g a c = fset (fset g a (some q)) c (some p) := by unfold swG; rw [ha, hc]
  rw [hs] at hr
  by_cases e1 : i = c
  · subst e1; exact dc
  · rw [fset_ne e1] at hr
    by_cases e2 : i = a
    · subst e2; exact da
    · rw [fset_ne e2] at hr; exact h.dom i r hr
abbrev D1 (b : Nat) : Nat → Prop := fun x => x = b
theorem c_GiveR {H : AHeap} {b : Nat} {g : TG} (h : RefR H b g) (n : Int) : CW MT 79 [.ptr (some (b, 0)), .int .i64 n] H fun v H' => v = .bool (g n).isSome ∧ RefR H' b (fset g n none) ∧ Evo (D1 b) H H' := by
  refine CW_of (fn := af79) rfl ?_
  unfold af79
  simp -implicitDefEqProofs only [↓WP_seq, ↓WP_skip, ↓WP_region, ↓WP_dregion, ↓WP_cond, ↓WP_block, ↓WP_exit, ↓WP_ret, ↓OW_nil, ↓OW_cons, ↓DW_nil, ↓DW_cons, ↓XW_call, XW, exA, KO_eq, KD_eq, OptK_some, EvK_some, GW2_true, GW2_false, KS_normal, KS_ret, KS_exit, KB_normal, KB_ret, KB_exit, CP2_bool, RP_ret, RP_normal, putA_some, putA_none, ev_t, ev_c, evs, evo, wantA, initA, resA, Tr.get_set, vl, chkOk, cond_true, cond_false, Nat.add_zero, Nat.mul_one, Nat.one_mul, Nat.zero_add, Nat.zero_mul, aggOf, pInt, binA, unA, intA, beq_true, beq_false, Bool.not_true, Bool.not_false, Bool.not_eq_true, and_self, and_true, true_and, ↓reduceIte, reduceIte, Nat.reduceEqDiff, Nat.succ_ne_self, Nat.reduceAdd, Nat.reduceMul, Nat.reduceSub, Nat.reduceBEq, Nat.reduceLT, Nat.reduceLeDiff, Int.cast_ofNat_Int, Int.reduceToNat, Int.reduceLT, Int.reduceLE, Int.reduceGE, Int.reduceGT, Int.reduceEq, Int.reduceNe, Int.reduceAdd, Int.reduceSub, Int.reduceNeg, decide_true, decide_false, Int.toNat_natCast, reduceCtorEq, List.nil_append, List.cons_append, AV.boxy, AV.cells, List.length_cons, List.length_nil, Nat.beq_refl, AOp.cl, ↓OW_guard, ↓DW_guard, KDW_0, KDW_1, KDW_2, OWskip_eq, DWskip_eq, fillA, setAt, DChk, DAt, stepA, ble_dec, beq_dec, Bool.and_self, Bool.and_true, Bool.true_and, Bool.and_false, Bool.false_and, List.take_succ_cons, List.take_zero, List.drop_succ_cons, List.drop_zero, List.take_nil, List.drop_nil, List.append_nil, eqAV, eqAVL, BEq.rfl, eqA, eqD, sameS, Option.map, Option.isNone, addrA, wrap64, gt_iff_lt, ge_iff_le, Int.lt_irrefl, Int.le_refl]
  refine CW.mono (c_Has h n) ?_
  rintro v H' ⟨rfl, rfl⟩
  cases hg : g n with
  | none =>
    simp -implicitDefEqProofs only [Option.isSome_none, Bool.false_eq_true, ↓WP_seq, ↓WP_skip, ↓WP_region, ↓WP_dregion, ↓WP_cond, ↓WP_block, ↓WP_exit, ↓WP_ret, ↓OW_nil, ↓OW_cons, ↓DW_nil, ↓DW_cons, ↓XW_call, XW, exA, KO_eq, KD_eq, OptK_some, EvK_some, GW2_true, GW2_false, KS_normal, KS_ret, KS_exit, KB_normal, KB_ret, KB_exit, CP2_bool, RP_ret, RP_normal, putA_some, putA_none, ev_t, ev_c, evs, evo, wantA, initA, resA, Tr.get_set, vl, chkOk, cond_true, cond_false, Nat.add_zero, Nat.mul_one, Nat.one_mul, Nat.zero_add, Nat.zero_mul, aggOf, pInt, binA, unA, intA, beq_true, beq_false, Bool.not_true, Bool.not_false, Bool.not_eq_true, and_self, and_true, true_and, ↓reduceIte, reduceIte, Nat.reduceEqDiff, Nat.succ_ne_self, Nat.reduceAdd, Nat.reduceMul, Nat.reduceSub, Nat.reduceBEq, Nat.reduceLT, Nat.reduceLeDiff, Int.cast_ofNat_Int, Int.reduceToNat, Int.reduceLT, Int.reduceLE, Int.reduceGE, Int.reduceGT, Int.reduceEq, Int.reduceNe, Int.reduceAdd, Int.reduceSub, Int.reduceNeg, decide_true, decide_false, Int.toNat_natCast, reduceCtorEq, List.nil_append, List.cons_append, AV.boxy, AV.cells, List.length_cons, List.length_nil, Nat.beq_refl, AOp.cl, ↓OW_guard, ↓DW_guard, KDW_0, KDW_1, KDW_2, OWskip_eq, DWskip_eq, fillA, setAt, DChk, DAt, stepA, ble_dec, beq_dec, Bool.and_self, Bool.and_true, Bool.true_and, Bool.and_false, Bool.false_and, List.take_succ_cons, List.take_zero, List.drop_succ_cons, List.drop_zero, List.take_nil, List.drop_nil, List.append_nil, eqAV, eqAVL, BEq.rfl, eqA, eqD, sameS, Option.map, Option.isNone, addrA, wrap64, gt_iff_lt, ge_iff_le, Int.lt_irrefl, Int.le_refl]
    rw [fset_none hg]
    exact ⟨h, Evo.refl _ _⟩
  | some p =>
    have hd := h.dom n p hg
    have n0 : 0 ≤ n := by omega
    have n1 := hd.2
    obtain ⟨H1, H2, a1, a2, a3, a4, a5⟩ := h.wr hd.1 hd.2 none (inj_none h.inj n)
    simp -implicitDefEqProofs only [Option.getD_none, Option.isSome_none] at a1 a2
    simp -implicitDefEqProofs only [Option.isSome_some, n0, n1, a1, a2, ↓WP_seq, ↓WP_skip, ↓WP_region, ↓WP_dregion, ↓WP_cond, ↓WP_block, ↓WP_exit, ↓WP_ret, ↓OW_nil, ↓OW_cons, ↓DW_nil, ↓DW_cons, ↓XW_call, XW, exA, KO_eq, KD_eq, OptK_some, EvK_some, GW2_true, GW2_false, KS_normal, KS_ret, KS_exit, KB_normal, KB_ret, KB_exit, CP2_bool, RP_ret, RP_normal, putA_some, putA_none, ev_t, ev_c, evs, evo, wantA, initA, resA, Tr.get_set, vl, chkOk, cond_true, cond_false, Nat.add_zero, Nat.mul_one, Nat.one_mul, Nat.zero_add, Nat.zero_mul, aggOf, pInt, binA, unA, intA, beq_true, beq_false, Bool.not_true, Bool.not_false, Bool.not_eq_true, and_self, and_true, true_and, ↓reduceIte, reduceIte, Nat.reduceEqDiff, Nat.succ_ne_self, Nat.reduceAdd, Nat.reduceMul, Nat.reduceSub, Nat.reduceBEq, Nat.reduceLT, Nat.reduceLeDiff, Int.cast_ofNat_Int, Int.reduceToNat, Int.reduceLT, Int.reduceLE, Int.reduceGE, Int.reduceGT, Int.reduceEq, Int.reduceNe, Int.reduceAdd, Int.reduceSub, Int.reduceNeg, decide_true, decide_false, Int.toNat_natCast, reduceCtorEq, List.nil_append, List.cons_append, AV.boxy, AV.cells, List.length_cons, List.length_nil, Nat.beq_refl, AOp.cl, ↓OW_guard, ↓DW_guard, KDW_0, KDW_1, KDW_2, OWskip_eq, DWskip_eq, fillA, setAt, DChk, DAt, stepA, ble_dec, beq_dec, Bool.and_self, Bool.and_true, Bool.true_and, Bool.and_false, Bool.false_and, List.take_succ_cons, List.take_zero, List.drop_succ_cons, List.drop_zero, List.take_nil, List.drop_nil, List.append_nil, eqAV, eqAVL, BEq.rfl, eqA, eqD, sameS, Option.map, Option.isNone, addrA, wrap64, gt_iff_lt, ge_iff_le, Int.lt_irrefl, Int.le_refl]
    exact ⟨a3, Evo.of_ch a5 rfl⟩
theorem c_SwapR {H : AHeap} {b : Nat} {g : TG} (h : RefR H b g) (x y : Int) : CW MT 80 [.ptr (some (b, 0)), .int .i64 x, .int .i64 y] H fun v H' => v = .bool ((g x).isSome && (g y).isSome) ∧ RefR H' b (swG g x y) ∧ Evo (D1 b) H H' := by
  refine CW_of (fn := af80) rfl ?_
  unfold af80
  simp -implicitDefEqProofs only [↓WP_seq, ↓WP_skip, ↓WP_region, ↓WP_dregion, ↓WP_cond, ↓WP_block, ↓WP_exit, ↓WP_ret, ↓OW_nil, ↓OW_cons, ↓DW_nil, ↓DW_cons, ↓XW_call, XW, exA, KO_eq, KD_eq, OptK_some, EvK_some, GW2_true, GW2_false, KS_normal, KS_ret, KS_exit, KB_normal, KB_ret, KB_exit, CP2_bool, RP_ret, RP_normal, putA_some, putA_none, ev_t, ev_c, evs, evo, wantA, initA, resA, Tr.get_set, vl, chkOk, cond_true, cond_false, Nat.add_zero, Nat.mul_one, Nat.one_mul, Nat.zero_add, Nat.zero_mul, aggOf, pInt, binA, unA, intA, beq_true, beq_false, Bool.not_true, Bool.not_false, Bool.not_eq_true, and_self, and_true, true_and, ↓reduceIte, reduceIte, Nat.reduceEqDiff, Nat.succ_ne_self, Nat.reduceAdd, Nat.reduceMul, Nat.reduceSub, Nat.reduceBEq, Nat.reduceLT, Nat.reduceLeDiff, Int.cast_ofNat_Int, Int.reduceToNat, Int.reduceLT, Int.reduceLE, Int.reduceGE, Int.reduceGT, Int.reduceEq, Int.reduceNe, Int.reduceAdd, Int.reduceSub, Int.reduceNeg, decide_true, decide_false, Int.toNat_natCast, reduceCtorEq, List.nil_append, List.cons_append, AV.boxy, AV.cells, List.length_cons, List.length_nil, Nat.beq_refl, AOp.cl, ↓OW_guard, ↓DW_guard, KDW_0, KDW_1, KDW_2, OWskip_eq, DWskip_eq, fillA, setAt, DChk, DAt, stepA, ble_dec, beq_dec, Bool.and_self, Bool.and_true, Bool.true_and, Bool.and_false, Bool.false_and, List.take_succ_cons, List.take_zero, List.drop_succ_cons, List.drop_zero, List.take_nil, List.drop_nil, List.append_nil, eqAV, eqAVL, BEq.rfl, eqA, eqD, sameS, Option.map, Option.isNone, addrA, wrap64, gt_iff_lt, ge_iff_le, Int.lt_irrefl, Int.le_refl]
  refine CW.mono (c_Has h x) ?_
  rintro v H' ⟨rfl, rfl⟩
  cases hx : g x with
  | none =>
    have hs : swG g x y = g := by unfold swG; rw [hx]
    rw [hs]
    simp -implicitDefEqProofs only [Option.isSome_none, Bool.false_eq_true, Bool.not_false, ↓WP_seq, ↓WP_skip, ↓WP_region, ↓WP_dregion, ↓WP_cond, ↓WP_block, ↓WP_exit, ↓WP_ret, ↓OW_nil, ↓OW_cons, ↓DW_nil, ↓DW_cons, ↓XW_call, XW, exA, KO_eq, KD_eq, OptK_some, EvK_some, GW2_true, GW2_false, KS_normal, KS_ret, KS_exit, KB_normal, KB_ret, KB_exit, CP2_bool, RP_ret, RP_normal, putA_some, putA_none, ev_t, ev_c, evs, evo, wantA, initA, resA, Tr.get_set, vl, chkOk, cond_true, cond_false, Nat.add_zero, Nat.mul_one, Nat.one_mul, Nat.zero_add, Nat.zero_mul, aggOf, pInt, binA, unA, intA, beq_true, beq_false, Bool.not_true, Bool.not_false, Bool.not_eq_true, and_self, and_true, true_and, ↓reduceIte, reduceIte, Nat.reduceEqDiff, Nat.succ_ne_self, Nat.reduceAdd, Nat.reduceMul, Nat.reduceSub, Nat.reduceBEq, Nat.reduceLT, Nat.reduceLeDiff, Int.cast_ofNat_Int, Int.reduceToNat, Int.reduceLT, Int.reduceLE, Int.reduceGE, Int.reduceGT, Int.reduceEq, Int.reduceNe, Int.reduceAdd, Int.reduceSub, Int.reduceNeg, decide_true, decide_false, Int.toNat_natCast, reduceCtorEq, List.nil_append, List.cons_append, AV.boxy, AV.cells, List.length_cons, List.length_nil, Nat.beq_refl, AOp.cl, ↓OW_guard, ↓DW_guard, KDW_0, KDW_1, KDW_2, OWskip_eq, DWskip_eq, fillA, setAt, DChk, DAt, stepA, ble_dec, beq_dec, Bool.and_self, Bool.and_true, Bool.true_and, Bool.and_false, Bool.false_and, List.take_succ_cons, List.take_zero, List.drop_succ_cons, List.drop_zero, List.take_nil, List.drop_nil, List.append_nil, eqAV, eqAVL, BEq.rfl, eqA, eqD, sameS, Option.map, Option.isNone, addrA, wrap64, gt_iff_lt, ge_iff_le, Int.lt_irrefl, Int.le_refl]
    exact ⟨h, Evo.refl _ _⟩
  | some p =>
    simp -implicitDefEqProofs only [Option.isSome_some, Bool.false_eq_true, ↓WP_seq, ↓WP_skip, ↓WP_region, ↓WP_dregion, ↓WP_cond, ↓WP_block, ↓WP_exit, ↓WP_ret, ↓OW_nil, ↓OW_cons, ↓DW_nil, ↓DW_cons, ↓XW_call, XW, exA, KO_eq, KD_eq, OptK_some, EvK_some, GW2_true, GW2_false, KS_normal, KS_ret, KS_exit, KB_normal, KB_ret, KB_exit, CP2_bool, RP_ret, RP_normal, putA_some, putA_none, ev_t, ev_c, evs, evo, wantA, initA, resA, Tr.get_set, vl, chkOk, cond_true, cond_false, Nat.add_zero, Nat.mul_one, Nat.one_mul, Nat.zero_add, Nat.zero_mul, aggOf, pInt, binA, unA, intA, beq_true, beq_false, Bool.not_true, Bool.not_false, Bool.not_eq_true, and_self, and_true, true_and, ↓reduceIte, reduceIte, Nat.reduceEqDiff, Nat.succ_ne_self, Nat.reduceAdd, Nat.reduceMul, Nat.reduceSub, Nat.reduceBEq, Nat.reduceLT, Nat.reduceLeDiff, Int.cast_ofNat_Int, Int.reduceToNat, Int.reduceLT, Int.reduceLE, Int.reduceGE, Int.reduceGT, Int.reduceEq, Int.reduceNe, Int.reduceAdd, Int.reduceSub, Int.reduceNeg, decide_true, decide_false, Int.toNat_natCast, reduceCtorEq, List.nil_append, List.cons_append, AV.boxy, AV.cells, List.length_cons, List.length_nil, Nat.beq_refl, AOp.cl, ↓OW_guard, ↓DW_guard, KDW_0, KDW_1, KDW_2, OWskip_eq, DWskip_eq, fillA, setAt, DChk, DAt, stepA, ble_dec, beq_dec, Bool.and_self, Bool.and_true, Bool.true_and, Bool.and_false, Bool.false_and, List.take_succ_cons, List.take_zero, List.drop_succ_cons, List.drop_zero, List.take_nil, List.drop_nil, List.append_nil, eqAV, eqAVL, BEq.rfl, eqA, eqD, sameS, Option.map, Option.isNone, addrA, wrap64, gt_iff_lt, ge_iff_le, Int.lt_irrefl, Int.le_refl]
    refine CW.mono (c_Has h y) ?_
    rintro v H' ⟨rfl, rfl⟩
    cases hy : g y with
    | none =>
      have hs : swG g x y = g := by unfold swG; rw [hx, hy]
      rw [hs]
      simp -implicitDefEqProofs only [Option.isSome_none, Bool.false_eq_true, Bool.not_false, ↓WP_seq, ↓WP_skip, ↓WP_region, ↓WP_dregion, ↓WP_cond, ↓WP_block, ↓WP_exit, ↓WP_ret, ↓OW_nil, ↓OW_cons, ↓DW_nil, ↓DW_cons, ↓XW_call, XW, exA, KO_eq, KD_eq, OptK_some, EvK_some, GW2_true, GW2_false, KS_normal, KS_ret, KS_exit, KB_normal, KB_ret, KB_exit, CP2_bool, RP_ret, RP_normal, putA_some, putA_none, ev_t, ev_c, evs, evo, wantA, initA, resA, Tr.get_set, vl, chkOk, cond_true, cond_false, Nat.add_zero, Nat.mul_one, Nat.one_mul, Nat.zero_add, Nat.zero_mul, aggOf, pInt, binA, unA, intA, beq_true, beq_false, Bool.not_true, Bool.not_false, Bool.not_eq_true, and_self, and_true, true_and, ↓reduceIte, reduceIte, Nat.reduceEqDiff, Nat.succ_ne_self, Nat.reduceAdd, Nat.reduceMul, Nat.reduceSub, Nat.reduceBEq, Nat.reduceLT, Nat.reduceLeDiff, Int.cast_ofNat_Int, Int.reduceToNat, Int.reduceLT, Int.reduceLE, Int.reduceGE, Int.reduceGT, Int.reduceEq, Int.reduceNe, Int.reduceAdd, Int.reduceSub, Int.reduceNeg, decide_true, decide_false, Int.toNat_natCast, reduceCtorEq, List.nil_append, List.cons_append, AV.boxy, AV.cells, List.length_cons, List.length_nil, Nat.beq_refl, AOp.cl, ↓OW_guard, ↓DW_guard, KDW_0, KDW_1, KDW_2, OWskip_eq, DWskip_eq, fillA, setAt, DChk, DAt, stepA, ble_dec, beq_dec, Bool.and_self, Bool.and_true, Bool.true_and, Bool.and_false, Bool.false_and, List.take_succ_cons, List.take_zero, List.drop_succ_cons, List.drop_zero, List.take_nil, List.drop_nil, List.append_nil, eqAV, eqAVL, BEq.rfl, eqA, eqD, sameS, Option.map, Option.isNone, addrA, wrap64, gt_iff_lt, ge_iff_le, Int.lt_irrefl, Int.le_refl]
      exact ⟨h, Evo.refl _ _⟩
    | some q =>
      have dx := h.dom x p hx
      have dy := h.dom y q hy
      have x0 : 0 ≤ x := by omega
      have y0 : 0 ≤ y := by omega
      have x1 := dx.2
      have y1 := dy.2
      obtain ⟨H1, H2, a1, a2, a3, a4, a5⟩ := h.sw hx hy
      have l1 := h.ldAt x0 x1
      have l2 := h.ldAt y0 y1
      rw [hx] at l1
      rw [hy] at l2
      simp -implicitDefEqProofs only [Option.getD_some] at l1 l2
      simp -implicitDefEqProofs only [Option.isSome_some, Bool.false_eq_true, x0, y0, x1, y1, l1, l2, a1, a2, ↓WP_seq, ↓WP_skip, ↓WP_region, ↓WP_dregion, ↓WP_cond, ↓WP_block, ↓WP_exit, ↓WP_ret, ↓OW_nil, ↓OW_cons, ↓DW_nil, ↓DW_cons, ↓XW_call, XW, exA, KO_eq, KD_eq, OptK_some, EvK_some, GW2_true, GW2_false, KS_normal, KS_ret, KS_exit, KB_normal, KB_ret, KB_exit, CP2_bool, RP_ret, RP_normal, putA_some, putA_none, ev_t, ev_c, evs, evo, wantA, initA, resA, Tr.get_set, vl, chkOk, cond_true, cond_false, Nat.add_zero, Nat.mul_one, Nat.one_mul, Nat.zero_add, Nat.zero_mul, aggOf, pInt, binA, unA, intA, beq_true, beq_false, Bool.not_true, Bool.not_false, Bool.not_eq_true, and_self, and_true, true_and, ↓reduceIte, reduceIte, Nat.reduceEqDiff, Nat.succ_ne_self, Nat.reduceAdd, Nat.reduceMul, Nat.reduceSub, Nat.reduceBEq, Nat.reduceLT, Nat.reduceLeDiff, Int.cast_ofNat_Int, Int.reduceToNat, Int.reduceLT, Int.reduceLE, Int.reduceGE, Int.reduceGT, Int.reduceEq, Int.reduceNe, Int.reduceAdd, Int.reduceSub, Int.reduceNeg, decide_true, decide_false, Int.toNat_natCast, reduceCtorEq, List.nil_append, List.cons_append, AV.boxy, AV.cells, List.length_cons, List.length_nil, Nat.beq_refl, AOp.cl, ↓OW_guard, ↓DW_guard, KDW_0, KDW_1, KDW_2, OWskip_eq, DWskip_eq, fillA, setAt, DChk, DAt, stepA, ble_dec, beq_dec, Bool.and_self, Bool.and_true, Bool.true_and, Bool.and_false, Bool.false_and, List.take_succ_cons, List.take_zero, List.drop_succ_cons, List.drop_zero, List.take_nil, List.drop_nil, List.append_nil, eqAV, eqAVL, BEq.rfl, eqA, eqD, sameS, Option.map, Option.isNone, addrA, wrap64, gt_iff_lt, ge_iff_le, Int.lt_irrefl, Int.le_refl]
      exact ⟨a3, Evo.of_ch a5 rfl⟩
theorem c_TakeR {H : AHeap} {b : Nat} {g : TG} (h : RefR H b g) (x y : Int) : CW MT 81 [.ptr (some (b, 0)), .agg [.int .i64 x, .int .i64 y]] H fun v H' => v = .int .i64 (tk g (x, y)).1 ∧ RefR H' b (tk g (x, y)).2 ∧ Evo (D1 b) H H' := by
  refine CW_of (fn := af81) rfl ?_
  unfold af81
  have hb := h.blk.1
  have s1 := Chg.newRow H [.int .i64 x, .int .i64 y]
  have b1 := Rd.newRow H [.int .i64 x, .int .i64 y]
  have hn1 : (H.newRow [.int .i64 x, .int .i64 y]).next = H.next + 1 := rfl
  generalize eH1 : H.newRow [.int .i64 x, .int .i64 y] = H1 at s1 b1 hn1
  have l1 := b1.load (n := 2) rfl
  have h1 := h.keep s1.1 (s1.gt h.blk.1)
  simp -implicitDefEqProofs only [eH1, l1, ↓WP_seq, ↓WP_skip, ↓WP_region, ↓WP_dregion, ↓WP_cond, ↓WP_block, ↓WP_exit, ↓WP_ret, ↓OW_nil, ↓OW_cons, ↓DW_nil, ↓DW_cons, ↓XW_call, XW, exA, KO_eq, KD_eq, OptK_some, EvK_some, GW2_true, GW2_false, KS_normal, KS_ret, KS_exit, KB_normal, KB_ret, KB_exit, CP2_bool, RP_ret, RP_normal, putA_some, putA_none, ev_t, ev_c, evs, evo, wantA, initA, resA, Tr.get_set, vl, chkOk, cond_true, cond_false, Nat.add_zero, Nat.mul_one, Nat.one_mul, Nat.zero_add, Nat.zero_mul, aggOf, pInt, binA, unA, intA, beq_true, beq_false, Bool.not_true, Bool.not_false, Bool.not_eq_true, and_self, and_true, true_and, ↓reduceIte, reduceIte, Nat.reduceEqDiff, Nat.succ_ne_self, Nat.reduceAdd, Nat.reduceMul, Nat.reduceSub, Nat.reduceBEq, Nat.reduceLT, Nat.reduceLeDiff, Int.cast_ofNat_Int, Int.reduceToNat, Int.reduceLT, Int.reduceLE, Int.reduceGE, Int.reduceGT, Int.reduceEq, Int.reduceNe, Int.reduceAdd, Int.reduceSub, Int.reduceNeg, decide_true, decide_false, Int.toNat_natCast, reduceCtorEq, List.nil_append, List.cons_append, AV.boxy, AV.cells, List.length_cons, List.length_nil, Nat.beq_refl, AOp.cl, ↓OW_guard, ↓DW_guard, KDW_0, KDW_1, KDW_2, OWskip_eq, DWskip_eq, fillA, setAt, DChk, DAt, stepA, ble_dec, beq_dec, Bool.and_self, Bool.and_true, Bool.true_and, Bool.and_false, Bool.false_and, List.take_succ_cons, List.take_zero, List.drop_succ_cons, List.drop_zero, List.take_nil, List.drop_nil, List.append_nil, eqAV, eqAVL, BEq.rfl, eqA, eqD, sameS, Option.map, Option.isNone, addrA, wrap64, gt_iff_lt, ge_iff_le, Int.lt_irrefl, Int.le_refl]
  refine CW.mono (c_OfR h1 x y) ?_
  rintro v H2 ⟨rfl, s2⟩
  have s12 := s1.trans s2
  have h2 := h.keep s12.1 (s12.gt h.blk.1)
  have l2 : loadA H2 H.next 0 2 = some [.int .i64 x, .int .i64 y] := by rw [s2.ld (by omega)]; exact l1
  cases ho : ofG g (x, y) with
  | some i =>
    have ht := tk_in ⟨i, (ofG_iff h.inj (x, y) i).1 ho⟩
    rw [ht]
    simp -implicitDefEqProofs only [Option.isSome_some, at0, at1, ↓WP_seq, ↓WP_skip, ↓WP_region, ↓WP_dregion, ↓WP_cond, ↓WP_block, ↓WP_exit, ↓WP_ret, ↓OW_nil, ↓OW_cons, ↓DW_nil, ↓DW_cons, ↓XW_call, XW, exA, KO_eq, KD_eq, OptK_some, EvK_some, GW2_true, GW2_false, KS_normal, KS_ret, KS_exit, KB_normal, KB_ret, KB_exit, CP2_bool, RP_ret, RP_normal, putA_some, putA_none, ev_t, ev_c, evs, evo, wantA, initA, resA, Tr.get_set, vl, chkOk, cond_true, cond_false, Nat.add_zero, Nat.mul_one, Nat.one_mul, Nat.zero_add, Nat.zero_mul, aggOf, pInt, binA, unA, intA, beq_true, beq_false, Bool.not_true, Bool.not_false, Bool.not_eq_true, and_self, and_true, true_and, ↓reduceIte, reduceIte, Nat.reduceEqDiff, Nat.succ_ne_self, Nat.reduceAdd, Nat.reduceMul, Nat.reduceSub, Nat.reduceBEq, Nat.reduceLT, Nat.reduceLeDiff, Int.cast_ofNat_Int, Int.reduceToNat, Int.reduceLT, Int.reduceLE, Int.reduceGE, Int.reduceGT, Int.reduceEq, Int.reduceNe, Int.reduceAdd, Int.reduceSub, Int.reduceNeg, decide_true, decide_false, Int.toNat_natCast, reduceCtorEq, List.nil_append, List.cons_append, AV.boxy, AV.cells, List.length_cons, List.length_nil, Nat.beq_refl, AOp.cl, ↓OW_guard, ↓DW_guard, KDW_0, KDW_1, KDW_2, OWskip_eq, DWskip_eq, fillA, setAt, DChk, DAt, stepA, ble_dec, beq_dec, Bool.and_self, Bool.and_true, Bool.true_and, Bool.and_false, Bool.false_and, List.take_succ_cons, List.take_zero, List.drop_succ_cons, List.drop_zero, List.take_nil, List.drop_nil, List.append_nil, eqAV, eqAVL, BEq.rfl, eqA, eqD, sameS, Option.map, Option.isNone, addrA, wrap64, gt_iff_lt, ge_iff_le, Int.lt_irrefl, Int.le_refl]
    exact ⟨h2, Evo.of_sm s12⟩
  | none =>
    have hno : ∀ j, g j ≠ some (x, y) := fun j hj => by rw [(ofG_iff h.inj (x, y) j).2 hj] at ho; cases ho
    simp -implicitDefEqProofs only [Option.isSome_none, at0, at1, Bool.false_eq_true, ↓WP_seq, ↓WP_skip, ↓WP_region, ↓WP_dregion, ↓WP_cond, ↓WP_block, ↓WP_exit, ↓WP_ret, ↓OW_nil, ↓OW_cons, ↓DW_nil, ↓DW_cons, ↓XW_call, XW, exA, KO_eq, KD_eq, OptK_some, EvK_some, GW2_true, GW2_false, KS_normal, KS_ret, KS_exit, KB_normal, KB_ret, KB_exit, CP2_bool, RP_ret, RP_normal, putA_some, putA_none, ev_t, ev_c, evs, evo, wantA, initA, resA, Tr.get_set, vl, chkOk, cond_true, cond_false, Nat.add_zero, Nat.mul_one, Nat.one_mul, Nat.zero_add, Nat.zero_mul, aggOf, pInt, binA, unA, intA, beq_true, beq_false, Bool.not_true, Bool.not_false, Bool.not_eq_true, and_self, and_true, true_and, ↓reduceIte, reduceIte, Nat.reduceEqDiff, Nat.succ_ne_self, Nat.reduceAdd, Nat.reduceMul, Nat.reduceSub, Nat.reduceBEq, Nat.reduceLT, Nat.reduceLeDiff, Int.cast_ofNat_Int, Int.reduceToNat, Int.reduceLT, Int.reduceLE, Int.reduceGE, Int.reduceGT, Int.reduceEq, Int.reduceNe, Int.reduceAdd, Int.reduceSub, Int.reduceNeg, decide_true, decide_false, Int.toNat_natCast, reduceCtorEq, List.nil_append, List.cons_append, AV.boxy, AV.cells, List.length_cons, List.length_nil, Nat.beq_refl, AOp.cl, ↓OW_guard, ↓DW_guard, KDW_0, KDW_1, KDW_2, OWskip_eq, DWskip_eq, fillA, setAt, DChk, DAt, stepA, ble_dec, beq_dec, Bool.and_self, Bool.and_true, Bool.true_and, Bool.and_false, Bool.false_and, List.take_succ_cons, List.take_zero, List.drop_succ_cons, List.drop_zero, List.take_nil, List.drop_nil, List.append_nil, eqAV, eqAVL, BEq.rfl, eqA, eqD, sameS, Option.map, Option.isNone, addrA, wrap64, gt_iff_lt, ge_iff_le, Int.lt_irrefl, Int.le_refl]
    refine WP_loop (fun n fr H' => ∃ i : Int, n = (1024 - i).toNat ∧ 4 ≤ i ∧ i ≤ 1024 ∧ (∀ j, 4 ≤ j → j < i → g j ≠ none) ∧ fr.get 0 = some (.ptr (some (b, 0))) ∧ fr.get 3 = some (.ptr (some (H.next, 0))) ∧ fr.get 7 = some (.int .i64 i) ∧ H' = H2) 1020 ?_ ?_
    · refine ⟨4, rfl, by omega, by omega, fun j h1 h2 => by omega, ?_⟩
      simp -implicitDefEqProofs only [↓WP_seq, ↓WP_skip, ↓WP_region, ↓WP_dregion, ↓WP_cond, ↓WP_block, ↓WP_exit, ↓WP_ret, ↓OW_nil, ↓OW_cons, ↓DW_nil, ↓DW_cons, ↓XW_call, XW, exA, KO_eq, KD_eq, OptK_some, EvK_some, GW2_true, GW2_false, KS_normal, KS_ret, KS_exit, KB_normal, KB_ret, KB_exit, CP2_bool, RP_ret, RP_normal, putA_some, putA_none, ev_t, ev_c, evs, evo, wantA, initA, resA, Tr.get_set, vl, chkOk, cond_true, cond_false, Nat.add_zero, Nat.mul_one, Nat.one_mul, Nat.zero_add, Nat.zero_mul, aggOf, pInt, binA, unA, intA, beq_true, beq_false, Bool.not_true, Bool.not_false, Bool.not_eq_true, and_self, and_true, true_and, ↓reduceIte, reduceIte, Nat.reduceEqDiff, Nat.succ_ne_self, Nat.reduceAdd, Nat.reduceMul, Nat.reduceSub, Nat.reduceBEq, Nat.reduceLT, Nat.reduceLeDiff, Int.cast_ofNat_Int, Int.reduceToNat, Int.reduceLT, Int.reduceLE, Int.reduceGE, Int.reduceGT, Int.reduceEq, Int.reduceNe, Int.reduceAdd, Int.reduceSub, Int.reduceNeg, decide_true, decide_false, Int.toNat_natCast, reduceCtorEq, List.nil_append, List.cons_append, AV.boxy, AV.cells, List.length_cons, List.length_nil, Nat.beq_refl, AOp.cl, ↓OW_guard, ↓DW_guard, KDW_0, KDW_1, KDW_2, OWskip_eq, DWskip_eq, fillA, setAt, DChk, DAt, stepA, ble_dec, beq_dec, Bool.and_self, Bool.and_true, Bool.true_and, Bool.and_false, Bool.false_and, List.take_succ_cons, List.take_zero, List.drop_succ_cons, List.drop_zero, List.take_nil, List.drop_nil, List.append_nil, eqAV, eqAVL, BEq.rfl, eqA, eqD, sameS, Option.map, Option.isNone, addrA, wrap64, gt_iff_lt, ge_iff_le, Int.lt_irrefl, Int.le_refl]
    · rintro n fr H3 ⟨i, hn, hi1, hi2, hlo, g0, g3, g7, rfl⟩
      by_cases hlt : i < 1024
      · have i0 : 0 ≤ i := by omega
        have a1 := h2.ldIn i0 hlt
        have hw : IntKind.i64.wrap (i + 1) = i + 1 := wrap64 (by omega) (by omega)
        cases hg : g i with
        | some p =>
          rw [hg] at a1
          simp -implicitDefEqProofs only [g0, g3, g7, i0, hlt, a1, hw, Option.isSome_some, Bool.false_eq_true, ↓WP_seq, ↓WP_skip, ↓WP_region, ↓WP_dregion, ↓WP_cond, ↓WP_block, ↓WP_exit, ↓WP_ret, ↓OW_nil, ↓OW_cons, ↓DW_nil, ↓DW_cons, ↓XW_call, XW, exA, KO_eq, KD_eq, OptK_some, EvK_some, GW2_true, GW2_false, KS_normal, KS_ret, KS_exit, KB_normal, KB_ret, KB_exit, CP2_bool, RP_ret, RP_normal, putA_some, putA_none, ev_t, ev_c, evs, evo, wantA, initA, resA, Tr.get_set, vl, chkOk, cond_true, cond_false, Nat.add_zero, Nat.mul_one, Nat.one_mul, Nat.zero_add, Nat.zero_mul, aggOf, pInt, binA, unA, intA, beq_true, beq_false, Bool.not_true, Bool.not_false, Bool.not_eq_true, and_self, and_true, true_and, ↓reduceIte, reduceIte, Nat.reduceEqDiff, Nat.succ_ne_self, Nat.reduceAdd, Nat.reduceMul, Nat.reduceSub, Nat.reduceBEq, Nat.reduceLT, Nat.reduceLeDiff, Int.cast_ofNat_Int, Int.reduceToNat, Int.reduceLT, Int.reduceLE, Int.reduceGE, Int.reduceGT, Int.reduceEq, Int.reduceNe, Int.reduceAdd, Int.reduceSub, Int.reduceNeg, decide_true, decide_false, Int.toNat_natCast, reduceCtorEq, List.nil_append, List.cons_append, AV.boxy, AV.cells, List.length_cons, List.length_nil, Nat.beq_refl, AOp.cl, ↓OW_guard, ↓DW_guard, KDW_0, KDW_1, KDW_2, OWskip_eq, DWskip_eq, fillA, setAt, DChk, DAt, stepA, ble_dec, beq_dec, Bool.and_self, Bool.and_true, Bool.true_and, Bool.and_false, Bool.false_and, List.take_succ_cons, List.take_zero, List.drop_succ_cons, List.drop_zero, List.take_nil, List.drop_nil, List.append_nil, eqAV, eqAVL, BEq.rfl, eqA, eqD, sameS, Option.map, Option.isNone, addrA, wrap64, gt_iff_lt, ge_iff_le, Int.lt_irrefl, Int.le_refl]
          refine ⟨(1024 - (i + 1)).toNat, by omega, i + 1, rfl, by omega, by omega, fun j h1 h2 => ?_, rfl⟩
          by_cases hj : j = i
          · subst hj; rw [hg]; simp
          · exact hlo j h1 (by omega)
        | none =>
          rw [hg] at a1
          have ht : tk g (x, y) = _ := tk_at hno ⟨hi1, hlt, hg, hlo⟩
          rw [ht]
          obtain ⟨H4, H5, c1, c2, c3, c4, c5⟩ := h2.wr hi1 hlt (some (x, y)) (inj_some h.inj i hno)
          simp -implicitDefEqProofs only [Option.getD_some, Option.isSome_some] at c1 c2
          have l4 : loadA H4 H.next 0 2 = some [.int .i64 x, .int .i64 y] := by rw [c4.load (by omega)]; exact l2
          have l5 : loadA H5 H.next 0 2 = some [.int .i64 x, .int .i64 y] := by rw [c5.load (by omega)]; exact l2
          simp -implicitDefEqProofs only [g0, g3, g7, i0, hlt, a1, l2, l4, l5, c1, c2, Option.isSome_none, Bool.not_false, ↓WP_seq, ↓WP_skip, ↓WP_region, ↓WP_dregion, ↓WP_cond, ↓WP_block, ↓WP_exit, ↓WP_ret, ↓OW_nil, ↓OW_cons, ↓DW_nil, ↓DW_cons, ↓XW_call, XW, exA, KO_eq, KD_eq, OptK_some, EvK_some, GW2_true, GW2_false, KS_normal, KS_ret, KS_exit, KB_normal, KB_ret, KB_exit, CP2_bool, RP_ret, RP_normal, putA_some, putA_none, ev_t, ev_c, evs, evo, wantA, initA, resA, Tr.get_set, vl, chkOk, cond_true, cond_false, Nat.add_zero, Nat.mul_one, Nat.one_mul, Nat.zero_add, Nat.zero_mul, aggOf, pInt, binA, unA, intA, beq_true, beq_false, Bool.not_true, Bool.not_false, Bool.not_eq_true, and_self, and_true, true_and, ↓reduceIte, reduceIte, Nat.reduceEqDiff, Nat.succ_ne_self, Nat.reduceAdd, Nat.reduceMul, Nat.reduceSub, Nat.reduceBEq, Nat.reduceLT, Nat.reduceLeDiff, Int.cast_ofNat_Int, Int.reduceToNat, Int.reduceLT, Int.reduceLE, Int.reduceGE, Int.reduceGT, Int.reduceEq, Int.reduceNe, Int.reduceAdd, Int.reduceSub, Int.reduceNeg, decide_true, decide_false, Int.toNat_natCast, reduceCtorEq, List.nil_append, List.cons_append, AV.boxy, AV.cells, List.length_cons, List.length_nil, Nat.beq_refl, AOp.cl, ↓OW_guard, ↓DW_guard, KDW_0, KDW_1, KDW_2, OWskip_eq, DWskip_eq, fillA, setAt, DChk, DAt, stepA, ble_dec, beq_dec, Bool.and_self, Bool.and_true, Bool.true_and, Bool.and_false, Bool.false_and, List.take_succ_cons, List.take_zero, List.drop_succ_cons, List.drop_zero, List.take_nil, List.drop_nil, List.append_nil, eqAV, eqAVL, BEq.rfl, eqA, eqD, sameS, Option.map, Option.isNone, addrA, wrap64, gt_iff_lt, ge_iff_le, Int.lt_irrefl, Int.le_refl]
          exact ⟨c3, (Evo.of_sm (D := D1 b) s12).then (Evo.of_ch (D := D1 b) c5 rfl) fun _ _ h => h⟩
      · have ht : tk g (x, y) = _ := tk_full hno fun j h1 h2 => hlo j h1 (by omega)
        rw [ht]
        simp -implicitDefEqProofs only [g0, g3, g7, hlt, Bool.false_eq_true, ↓WP_seq, ↓WP_skip, ↓WP_region, ↓WP_dregion, ↓WP_cond, ↓WP_block, ↓WP_exit, ↓WP_ret, ↓OW_nil, ↓OW_cons, ↓DW_nil, ↓DW_cons, ↓XW_call, XW, exA, KO_eq, KD_eq, OptK_some, EvK_some, GW2_true, GW2_false, KS_normal, KS_ret, KS_exit, KB_normal, KB_ret, KB_exit, CP2_bool, RP_ret, RP_normal, putA_some, putA_none, ev_t, ev_c, evs, evo, wantA, initA, resA, Tr.get_set, vl, chkOk, cond_true, cond_false, Nat.add_zero, Nat.mul_one, Nat.one_mul, Nat.zero_add, Nat.zero_mul, aggOf, pInt, binA, unA, intA, beq_true, beq_false, Bool.not_true, Bool.not_false, Bool.not_eq_true, and_self, and_true, true_and, ↓reduceIte, reduceIte, Nat.reduceEqDiff, Nat.succ_ne_self, Nat.reduceAdd, Nat.reduceMul, Nat.reduceSub, Nat.reduceBEq, Nat.reduceLT, Nat.reduceLeDiff, Int.cast_ofNat_Int, Int.reduceToNat, Int.reduceLT, Int.reduceLE, Int.reduceGE, Int.reduceGT, Int.reduceEq, Int.reduceNe, Int.reduceAdd, Int.reduceSub, Int.reduceNeg, decide_true, decide_false, Int.toNat_natCast, reduceCtorEq, List.nil_append, List.cons_append, AV.boxy, AV.cells, List.length_cons, List.length_nil, Nat.beq_refl, AOp.cl, ↓OW_guard, ↓DW_guard, KDW_0, KDW_1, KDW_2, OWskip_eq, DWskip_eq, fillA, setAt, DChk, DAt, stepA, ble_dec, beq_dec, Bool.and_self, Bool.and_true, Bool.true_and, Bool.and_false, Bool.false_and, List.take_succ_cons, List.take_zero, List.drop_succ_cons, List.drop_zero, List.take_nil, List.drop_nil, List.append_nil, eqAV, eqAVL, BEq.rfl, eqA, eqD, sameS, Option.map, Option.isNone, addrA, wrap64, gt_iff_lt, ge_iff_le, Int.lt_irrefl, Int.le_refl]
        exact ⟨h2, Evo.of_sm s12⟩
end Go.Proofs.Ytldlolpbnfgdeaa.AA
