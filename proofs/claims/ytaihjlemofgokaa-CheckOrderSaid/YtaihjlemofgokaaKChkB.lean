/- Rows of events: beginnings; what agrees. -/
import Derived.Test.YtaihjlemofgokaaKChkA
set_option linter.unusedSimpArgs false
set_option linter.unusedVariables false
namespace Go.Proofs.Ytaihjlemofgokaa.AA
open Go Go.RowKit
set_option maxRecDepth 100000
section
variable {α : Type} {E : Rep α} {s : Nat} {H : AHeap} {xs : List α}
theorem SlE.shape {v : AV} (h : SlE E s H xs [v]) : ∃ a s0 cl, v = .slice a s0 xs.length cl ∧ (a = none ∨ s0 = s) := by
  obtain ⟨a, s0, cl, e, k, -, -⟩ := h
  exact ⟨a, s0, cl, (List.cons.inj e).1, k⟩
theorem SlE.at {a : Option (Nat × Nat)} {s0 n : Nat} {cl : Bool} (h : SlE E s H xs [.slice a s0 n cl]) {i : Nat} (hi : i < xs.length) : ∃ x o l, a = some (x, o) ∧ s0 = s ∧ loadA H x (o + i * s) s = some l ∧ l.length = s ∧ E H xs[i] l ∧ Rd H x (o + i * s) l := by
  obtain ⟨a', s0', cl', e, k0, -, k⟩ := h
  cases e
  obtain ⟨x, o, cs, rfl, hr, hl, hj⟩ := k (by omega)
  have hle : (i + 1) * s ≤ xs.length * s := Nat.mul_le_mul_right s (by omega)
  rw [Nat.add_mul, Nat.one_mul] at hle
  have hlen : ((cs.drop (i * s)).take s).length = s := by simp; omega
  rcases hr.part (i * s) s with hr' | hr'
  · exact ⟨x, o, _, rfl, by rcases k0 with k0 | k0; cases k0; exact k0, hr'.load hlen, hlen, hj i hi, hr'⟩
  · omega
theorem SlE.max {l : List AV} (h : SlE E s H xs l) : xs.length ≤ 9223372036854775807 := by
  obtain ⟨a', s0', cl', e, k0, k1, -⟩ := h
  exact k1
theorem SlE.len {a : Option (Nat × Nat)} {s0 n : Nat} {cl : Bool} (h : SlE E s H xs [.slice a s0 n cl]) : n = xs.length := by
  obtain ⟨a', s0', cl', e, -⟩ := h
  cases e; rfl
end
/-- Things that want no heap. -/
def EncE {α : Type} (enc : α → List AV) (ok : α → Prop) : Rep α := fun _ a l => l = enc a ∧ ok a
theorem MonoE.enc {α : Type} {enc : α → List AV} {ok : α → Prop} : MonoE (EncE enc ok) := fun _ _ _ _ h _ => h
def I64 (n : Int) : Prop := -9223372036854775808 ≤ n ∧ n ≤ 9223372036854775807
abbrev Pr2 := Int × Int
def prC (p : Pr2) : List AV := [iv p.1, iv p.2]
def prOk (p : Pr2) : Prop := I64 p.1 ∧ I64 p.2
def byC (n : Nat) : List AV := [.int .u8 (n : Int)]
def byOk (n : Nat) : Prop := n < 256
def stC (s : List Nat) : List AV := [.str s]
def stOk (s : List Nat) : Prop := (∀ x, x ∈ s → x < 256) ∧ s.length ≤ 9223372036854775807
abbrev PrE := EncE prC prOk
abbrev ByE := EncE byC byOk
abbrev StE := EncE stC stOk
structure UClass where
  name : List Nat
  super : Int
  fields : Int
  binds : List Pr2
structure UMethod where
  args : Int
  temps : Int
  lits : List Pr2
  code : List Nat
structure UObj where
  cls : Int
  fields : List Pr2
structure UUnit where
  names : List (List Nat)
  classes : List UClass
  methods : List UMethod
  objects : List UObj
  main : Int
def ClE : Rep UClass := fun H c l => ∃ v, l = [.str c.name, iv c.super, iv c.fields, v] ∧ stOk c.name ∧ I64 c.super ∧ I64 c.fields ∧ SlE PrE 2 H c.binds [v]
def MeE : Rep UMethod := fun H m l => ∃ v w, l = [iv m.args, iv m.temps, v, w] ∧ I64 m.args ∧ I64 m.temps ∧ SlE PrE 2 H m.lits [v] ∧ SlE ByE 1 H m.code [w]
def ObE : Rep UObj := fun H o l => ∃ v, l = [iv o.cls, v] ∧ I64 o.cls ∧ SlE PrE 2 H o.fields [v]
def UnE : Rep UUnit := fun H u l => ∃ v1 v2 v3 v4, l = [v1, v2, v3, v4, iv u.main] ∧ I64 u.main ∧ SlE StE 1 H u.names [v1] ∧ SlE ClE 4 H u.classes [v2] ∧ SlE MeE 4 H u.methods [v3] ∧ SlE ObE 2 H u.objects [v4]
theorem MonoE.cl : MonoE ClE := fun H H' c l ⟨v, e, h1, h2, h3, h4⟩ hs => ⟨v, e, h1, h2, h3, MonoE.enc.sl _ _ _ _ h4 hs⟩
theorem MonoE.me : MonoE MeE := fun H H' c l ⟨v, w, e, h1, h2, h3, h4⟩ hs => ⟨v, w, e, h1, h2, MonoE.enc.sl _ _ _ _ h3 hs, MonoE.enc.sl _ _ _ _ h4 hs⟩
theorem MonoE.ob : MonoE ObE := fun H H' c l ⟨v, e, h1, h2⟩ hs => ⟨v, e, h1, MonoE.enc.sl _ _ _ _ h2 hs⟩
theorem MonoE.un : MonoE UnE := fun H H' c l ⟨v1, v2, v3, v4, e, h0, h1, h2, h3, h4⟩ hs => ⟨v1, v2, v3, v4, e, h0, MonoE.enc.sl _ _ _ _ h1 hs, MonoE.cl.sl _ _ _ _ h2 hs, MonoE.me.sl _ _ _ _ h3 hs, MonoE.ob.sl _ _ _ _ h4 hs⟩
/-- A bound of a slice. -/
theorem bnd {k n d : Nat} (h : k ≤ n) : boundA (some (.int .i64 (k : Int))) 0 n d = some k := by
  have : (0 : Int) ≤ (k : Int) ∧ (k : Int) ≤ (n : Int) := by omega
  simp [boundA, this]
set_option maxHeartbeats 2000000
attribute [local irreducible] Tr.set
def gEqual (s : Nat) (agg : Bool) (sh : ESh) : AFunc := { body := .seq (.region [{ dst := some 4, op := .mv (.c (.bool false)), guard := none }]) (.seq (.seq (.region [{ dst := some 6, op := .mv (.t 0), guard := none }, { dst := some 7, op := .lenS false (.t 6), guard := none }, { dst := some 8, op := .mv (.t 1), guard := none }, { dst := some 9, op := .lenS false (.t 8), guard := none }, { dst := some 10, op := .bin (Go.BinOp.neq) (.sc (Go.Proofs.Ytaihjlemofgokaa.AA.SK.int)) (.t 7) (.t 9), guard := none }]) (.cond (.t 10) (.seq (.region [{ dst := some 4, op := .mv (.c (.bool false)), guard := none }]) (.ret)) (.skip))) (.seq (.seq (.region [{ dst := some 11, op := .mv (.t 0), guard := none }, { dst := some 12, op := .lenS false (.t 11), guard := none }, { dst := some 13, op := .mv (.c (.int (.i64) 0)), guard := none }]) (.block 0 (.loop (.seq (.region [{ dst := some 14, op := .bin (Go.BinOp.lss) (.sc (Go.Proofs.Ytaihjlemofgokaa.AA.SK.int)) (.t 13) (.t 12), guard := none }]) (.seq (.cond (.t 14) (.skip) (.exit 0)) (.seq (.block 1 (.seq (.region [{ dst := some 15, op := .mv (.t 13), guard := none }, { dst := some 5, op := .mv (.t 15), guard := none }]) (.seq (.dregion [{ dst := some 16, op := .mv (.t 0), guard := none }, { dst := some 17, op := .mv (.t 5), guard := none }, { dst := some 18, op := .iaddrS s (.t 16) (.t 17), guard := none }, { dst := some 19, op := .load s agg (.t 18), guard := none }, { dst := some 20, op := .mv (.t 1), guard := none }, { dst := some 21, op := .mv (.t 5), guard := none }, { dst := some 22, op := .iaddrS s (.t 20) (.t 21), guard := none }, { dst := some 23, op := .load s agg (.t 22), guard := none }, { dst := some 24, op := .bin (Go.BinOp.neq) sh (.t 19) (.t 23), guard := none }] [(0, 0, []), (0, 0, []), (0, 0, [0, 1]), (0, 0, [2, 0, 1]), (0, 0, []), (0, 0, []), (0, 0, [4, 5]), (0, 0, [6, 4, 5]), (0, 0, [3, 2, 0, 1, 7, 6, 4, 5])]) (.cond (.t 24) (.seq (.region [{ dst := some 4, op := .mv (.c (.bool false)), guard := none }]) (.ret)) (.skip))))) (.region [{ dst := some 25, op := .bin (Go.BinOp.add) (.sc (Go.Proofs.Ytaihjlemofgokaa.AA.SK.int)) (.t 13) (.c (.int (.i64) 1)), guard := none }, { dst := some 13, op := .mv (.t 25), guard := none }]))))))) (.seq (.region [{ dst := some 4, op := .mv (.c (.bool true)), guard := none }]) (.ret)))), results := [Sum.inl 4] }
theorem wrapS {i n : Nat} (h : i < n) (hn : n ≤ 9223372036854775807) : IntKind.i64.wrap ((i : Int) + 1) = ((i + 1 : Nat) : Int) := by rw [wrap64 (by omega) (by omega)]; omega
section
variable {α : Type} {E : Rep α} {s : Nat} {H : AHeap} {xs : List α} {v : AV}
/-- slices.Equal. -/
theorem c_equal {enc : α → List AV} {ok : α → Prop} {agg : Bool} {sh : ESh} {f : Nat} {ys : List α} {w : AV} [DecidableEq α] (hf : MN.fs f = some (gEqual s agg sh)) (h : SlE (EncE enc ok) s H xs [v]) (h' : SlE (EncE enc ok) s H ys [w]) {el : α → AV}
    (hel : ∀ a, (enc a).length = s → aggOf agg (enc a) = some (el a)) (hne : ∀ a b, binA .neq sh (el a) (el b) = some (.bool (decide (a ≠ b)))) (hrf : ∀ a, eqAV (el a) (el a) = true) :
    CW MN f [v, w] H fun u H' => u = .bool (decide (xs = ys)) ∧ H' = H := by
  refine CW_of hf ?_
  obtain ⟨a, s0, cl, rfl, -⟩ := h.shape
  obtain ⟨a', s0', cl', rfl, -⟩ := h'.shape
  have hmax := h.max
  unfold gEqual
  by_cases hlen : xs.length = ys.length
  · have hl1 : ((xs.length : Int) != (ys.length : Int)) = false := by simp [hlen]
    simp -implicitDefEqProofs only [hl1, Bool.false_eq_true, ↓WP_seq, ↓WP_skip, ↓WP_region, ↓WP_dregion, ↓WP_cond, ↓WP_block, ↓WP_exit, ↓WP_ret, ↓OW_nil, ↓OW_cons, ↓DW_nil, ↓DW_cons, ↓XW_call, XW, exA, KO_eq, OptK_some, EvK_some, GW2_true, GW2_false, KS_normal, KS_ret, KS_exit, KB_normal, KB_ret, KB_exit, CP2_bool, RP_ret, putA_some, ev_t, ev_c, evs, evo, wantA, initA, resA, Tr.get_set, vl, chkOk, cond_true, cond_false, Nat.add_zero, Nat.mul_one, Nat.one_mul, Nat.zero_add, Nat.zero_mul, aggOf, pInt, binA, unA, intA, beq_true, beq_false, Bool.not_true, Bool.not_false, Bool.not_eq_true, and_self, and_true, true_and, ↓reduceIte, reduceIte, Nat.reduceEqDiff, Nat.succ_ne_self, Nat.reduceAdd, Nat.reduceMul, Nat.reduceSub, Nat.reduceBEq, Nat.reduceLT, Nat.reduceLeDiff, Int.cast_ofNat_Int, Int.reduceToNat, Int.reduceLT, Int.reduceLE, Int.reduceGE, Int.reduceGT, Int.reduceEq, Int.reduceNe, Int.reduceAdd, Int.reduceSub, Int.reduceNeg, decide_true, decide_false, Int.toNat_natCast, reduceCtorEq, List.nil_append, List.cons_append, AV.boxy, AV.cells, List.length_cons, List.length_nil, Nat.beq_refl, AOp.cl, ↓OW_guard, ↓DW_guard, KDW_0, KDW_1, KDW_2, OWskip_eq, fillA, setAt, DChk, DAt, stepA, ble_dec, beq_dec, Bool.and_self, Bool.and_true, Bool.true_and, Bool.and_false, Bool.false_and, List.take_succ_cons, List.take_zero, List.drop_succ_cons, List.drop_zero, List.take_nil, List.drop_nil, List.append_nil, eqAV, eqAVL, BEq.rfl, sameS, Option.map, Option.isNone, wrap64, gt_iff_lt, ge_iff_le, Int.lt_irrefl, Int.le_refl]
    refine WP_loop (fun n fr H' => ∃ i : Nat, n = xs.length - i ∧ i ≤ xs.length ∧ (∀ j (hj : j < i) (hj' : j < xs.length), xs[j] = ys[j]'(by omega)) ∧ fr.get 0 = some (.slice a s0 xs.length cl) ∧ fr.get 1 = some (.slice a' s0' ys.length cl') ∧ fr.get 12 = some (.int .i64 xs.length) ∧ fr.get 13 = some (.int .i64 i) ∧ H' = H) xs.length ?_ ?_
    · refine ⟨0, rfl, by omega, fun j hj => by omega, ?_⟩
      simp -implicitDefEqProofs only [↓WP_seq, ↓WP_skip, ↓WP_region, ↓WP_dregion, ↓WP_cond, ↓WP_block, ↓WP_exit, ↓WP_ret, ↓OW_nil, ↓OW_cons, ↓DW_nil, ↓DW_cons, ↓XW_call, XW, exA, KO_eq, OptK_some, EvK_some, GW2_true, GW2_false, KS_normal, KS_ret, KS_exit, KB_normal, KB_ret, KB_exit, CP2_bool, RP_ret, putA_some, ev_t, ev_c, evs, evo, wantA, initA, resA, Tr.get_set, vl, chkOk, cond_true, cond_false, Nat.add_zero, Nat.mul_one, Nat.one_mul, Nat.zero_add, Nat.zero_mul, aggOf, pInt, binA, unA, intA, beq_true, beq_false, Bool.not_true, Bool.not_false, Bool.not_eq_true, and_self, and_true, true_and, ↓reduceIte, reduceIte, Nat.reduceEqDiff, Nat.succ_ne_self, Nat.reduceAdd, Nat.reduceMul, Nat.reduceSub, Nat.reduceBEq, Nat.reduceLT, Nat.reduceLeDiff, Int.cast_ofNat_Int, Int.reduceToNat, Int.reduceLT, Int.reduceLE, Int.reduceGE, Int.reduceGT, Int.reduceEq, Int.reduceNe, Int.reduceAdd, Int.reduceSub, Int.reduceNeg, decide_true, decide_false, Int.toNat_natCast, reduceCtorEq, List.nil_append, List.cons_append, AV.boxy, AV.cells, List.length_cons, List.length_nil, Nat.beq_refl, AOp.cl, ↓OW_guard, ↓DW_guard, KDW_0, KDW_1, KDW_2, OWskip_eq, fillA, setAt, DChk, DAt, stepA, ble_dec, beq_dec, Bool.and_self, Bool.and_true, Bool.true_and, Bool.and_false, Bool.false_and, List.take_succ_cons, List.take_zero, List.drop_succ_cons, List.drop_zero, List.take_nil, List.drop_nil, List.append_nil, eqAV, eqAVL, BEq.rfl, sameS, Option.map, Option.isNone, wrap64, gt_iff_lt, ge_iff_le, Int.lt_irrefl, Int.le_refl]
    · rintro n fr H1 ⟨i, hn, hi, heq, g0, g1, g12, g13, rfl⟩
      have i0 : (0 : Int) ≤ i := by omega
      by_cases hlt : i < xs.length
      · have hlt' : (i : Int) < (xs.length : Int) := by omega
        have hlt2 : (i : Int) < (ys.length : Int) := by omega
        have hw := wrapS hlt hmax
        obtain ⟨x, o, l, rfl, rfl, ld, hl, ⟨rfl, -⟩, -⟩ := h.at hlt
        obtain ⟨x', o', l', rfl, rfl, ld', hl', ⟨rfl, -⟩, -⟩ := h'.at (i := i) (by omega)
        have e1 := hel _ hl
        have e2 := hel _ hl'
        have e3 := hne xs[i] (ys[i]'(by omega))
        have r1 := hrf xs[i]
        have r2 := hrf (ys[i]'(by omega))
        have hxi : xs[i] = ys[i]'(by omega) ∨ xs ≠ ys := by
          by_cases e : xs = ys
          · left; subst e; rfl
          · exact .inr e
        have hnext : xs[i] = ys[i]'(by omega) → ∀ j (hj : j < i + 1) (hj' : j < xs.length), xs[j] = ys[j]'(by omega) := fun e j hj hj' => by
          by_cases e' : j = i
          · subst e'; exact e
          · exact heq j (by omega) hj'
        generalize xs[i] = p at e1 e3 r1 hxi hnext ld
        generalize ys[i]'(by omega) = q at e2 e3 r2 hxi hnext ld'
        by_cases hxy : p = q
        · subst hxy
          rw [decide_eq_false (by simp)] at e3
          simp -implicitDefEqProofs only [g0, g1, g12, g13, hlt', hlt2, i0, ld, ld', ↓e1, ↓e2, r1, ↓e3, hw, Bool.false_eq_true, ↓WP_seq, ↓WP_skip, ↓WP_region, ↓WP_dregion, ↓WP_cond, ↓WP_block, ↓WP_exit, ↓WP_ret, ↓OW_nil, ↓OW_cons, ↓DW_nil, ↓DW_cons, ↓XW_call, XW, exA, KO_eq, OptK_some, EvK_some, GW2_true, GW2_false, KS_normal, KS_ret, KS_exit, KB_normal, KB_ret, KB_exit, CP2_bool, RP_ret, putA_some, ev_t, ev_c, evs, evo, wantA, initA, resA, Tr.get_set, vl, chkOk, cond_true, cond_false, Nat.add_zero, Nat.mul_one, Nat.one_mul, Nat.zero_add, Nat.zero_mul, aggOf, pInt, binA, unA, intA, beq_true, beq_false, Bool.not_true, Bool.not_false, Bool.not_eq_true, and_self, and_true, true_and, ↓reduceIte, reduceIte, Nat.reduceEqDiff, Nat.succ_ne_self, Nat.reduceAdd, Nat.reduceMul, Nat.reduceSub, Nat.reduceBEq, Nat.reduceLT, Nat.reduceLeDiff, Int.cast_ofNat_Int, Int.reduceToNat, Int.reduceLT, Int.reduceLE, Int.reduceGE, Int.reduceGT, Int.reduceEq, Int.reduceNe, Int.reduceAdd, Int.reduceSub, Int.reduceNeg, decide_true, decide_false, Int.toNat_natCast, reduceCtorEq, List.nil_append, List.cons_append, AV.boxy, AV.cells, List.length_cons, List.length_nil, Nat.beq_refl, AOp.cl, ↓OW_guard, ↓DW_guard, KDW_0, KDW_1, KDW_2, OWskip_eq, fillA, setAt, DChk, DAt, stepA, ble_dec, beq_dec, Bool.and_self, Bool.and_true, Bool.true_and, Bool.and_false, Bool.false_and, List.take_succ_cons, List.take_zero, List.drop_succ_cons, List.drop_zero, List.take_nil, List.drop_nil, List.append_nil, eqAV, eqAVL, BEq.rfl, sameS, Option.map, Option.isNone, wrap64, gt_iff_lt, ge_iff_le, Int.lt_irrefl, Int.le_refl]
          exact ⟨xs.length - (i + 1), by omega, i + 1, rfl, by omega, hnext rfl, rfl⟩
        · have hx : xs ≠ ys := by
            rcases hxi with e | e
            · exact absurd e hxy
            · exact e
          rw [decide_eq_true hxy] at e3
          simp -implicitDefEqProofs only [g0, g1, g12, g13, hlt', hlt2, i0, ld, ld', ↓e1, ↓e2, r1, r2, ↓e3, hx, ↓WP_seq, ↓WP_skip, ↓WP_region, ↓WP_dregion, ↓WP_cond, ↓WP_block, ↓WP_exit, ↓WP_ret, ↓OW_nil, ↓OW_cons, ↓DW_nil, ↓DW_cons, ↓XW_call, XW, exA, KO_eq, OptK_some, EvK_some, GW2_true, GW2_false, KS_normal, KS_ret, KS_exit, KB_normal, KB_ret, KB_exit, CP2_bool, RP_ret, putA_some, ev_t, ev_c, evs, evo, wantA, initA, resA, Tr.get_set, vl, chkOk, cond_true, cond_false, Nat.add_zero, Nat.mul_one, Nat.one_mul, Nat.zero_add, Nat.zero_mul, aggOf, pInt, binA, unA, intA, beq_true, beq_false, Bool.not_true, Bool.not_false, Bool.not_eq_true, and_self, and_true, true_and, ↓reduceIte, reduceIte, Nat.reduceEqDiff, Nat.succ_ne_self, Nat.reduceAdd, Nat.reduceMul, Nat.reduceSub, Nat.reduceBEq, Nat.reduceLT, Nat.reduceLeDiff, Int.cast_ofNat_Int, Int.reduceToNat, Int.reduceLT, Int.reduceLE, Int.reduceGE, Int.reduceGT, Int.reduceEq, Int.reduceNe, Int.reduceAdd, Int.reduceSub, Int.reduceNeg, decide_true, decide_false, Int.toNat_natCast, reduceCtorEq, List.nil_append, List.cons_append, AV.boxy, AV.cells, List.length_cons, List.length_nil, Nat.beq_refl, AOp.cl, ↓OW_guard, ↓DW_guard, KDW_0, KDW_1, KDW_2, OWskip_eq, fillA, setAt, DChk, DAt, stepA, ble_dec, beq_dec, Bool.and_self, Bool.and_true, Bool.true_and, Bool.and_false, Bool.false_and, List.take_succ_cons, List.take_zero, List.drop_succ_cons, List.drop_zero, List.take_nil, List.drop_nil, List.append_nil, eqAV, eqAVL, BEq.rfl, sameS, Option.map, Option.isNone, wrap64, gt_iff_lt, ge_iff_le, Int.lt_irrefl, Int.le_refl]
      · have hlt' : ¬ (i : Int) < (xs.length : Int) := by omega
        have : xs = ys := List.ext_getElem hlen fun j h1 h2 => heq j (by omega) h1
        subst this
        simp -implicitDefEqProofs only [g0, g1, g12, g13, hlt', Bool.false_eq_true, ↓WP_seq, ↓WP_skip, ↓WP_region, ↓WP_dregion, ↓WP_cond, ↓WP_block, ↓WP_exit, ↓WP_ret, ↓OW_nil, ↓OW_cons, ↓DW_nil, ↓DW_cons, ↓XW_call, XW, exA, KO_eq, OptK_some, EvK_some, GW2_true, GW2_false, KS_normal, KS_ret, KS_exit, KB_normal, KB_ret, KB_exit, CP2_bool, RP_ret, putA_some, ev_t, ev_c, evs, evo, wantA, initA, resA, Tr.get_set, vl, chkOk, cond_true, cond_false, Nat.add_zero, Nat.mul_one, Nat.one_mul, Nat.zero_add, Nat.zero_mul, aggOf, pInt, binA, unA, intA, beq_true, beq_false, Bool.not_true, Bool.not_false, Bool.not_eq_true, and_self, and_true, true_and, ↓reduceIte, reduceIte, Nat.reduceEqDiff, Nat.succ_ne_self, Nat.reduceAdd, Nat.reduceMul, Nat.reduceSub, Nat.reduceBEq, Nat.reduceLT, Nat.reduceLeDiff, Int.cast_ofNat_Int, Int.reduceToNat, Int.reduceLT, Int.reduceLE, Int.reduceGE, Int.reduceGT, Int.reduceEq, Int.reduceNe, Int.reduceAdd, Int.reduceSub, Int.reduceNeg, decide_true, decide_false, Int.toNat_natCast, reduceCtorEq, List.nil_append, List.cons_append, AV.boxy, AV.cells, List.length_cons, List.length_nil, Nat.beq_refl, AOp.cl, ↓OW_guard, ↓DW_guard, KDW_0, KDW_1, KDW_2, OWskip_eq, fillA, setAt, DChk, DAt, stepA, ble_dec, beq_dec, Bool.and_self, Bool.and_true, Bool.true_and, Bool.and_false, Bool.false_and, List.take_succ_cons, List.take_zero, List.drop_succ_cons, List.drop_zero, List.take_nil, List.drop_nil, List.append_nil, eqAV, eqAVL, BEq.rfl, sameS, Option.map, Option.isNone, wrap64, gt_iff_lt, ge_iff_le, Int.lt_irrefl, Int.le_refl]
  · have hl1 : ((xs.length : Int) != (ys.length : Int)) = true := by simp; omega
    have : xs ≠ ys := fun e => hlen (by rw [e])
    simp -implicitDefEqProofs only [hl1, this, ↓WP_seq, ↓WP_skip, ↓WP_region, ↓WP_dregion, ↓WP_cond, ↓WP_block, ↓WP_exit, ↓WP_ret, ↓OW_nil, ↓OW_cons, ↓DW_nil, ↓DW_cons, ↓XW_call, XW, exA, KO_eq, OptK_some, EvK_some, GW2_true, GW2_false, KS_normal, KS_ret, KS_exit, KB_normal, KB_ret, KB_exit, CP2_bool, RP_ret, putA_some, ev_t, ev_c, evs, evo, wantA, initA, resA, Tr.get_set, vl, chkOk, cond_true, cond_false, Nat.add_zero, Nat.mul_one, Nat.one_mul, Nat.zero_add, Nat.zero_mul, aggOf, pInt, binA, unA, intA, beq_true, beq_false, Bool.not_true, Bool.not_false, Bool.not_eq_true, and_self, and_true, true_and, ↓reduceIte, reduceIte, Nat.reduceEqDiff, Nat.succ_ne_self, Nat.reduceAdd, Nat.reduceMul, Nat.reduceSub, Nat.reduceBEq, Nat.reduceLT, Nat.reduceLeDiff, Int.cast_ofNat_Int, Int.reduceToNat, Int.reduceLT, Int.reduceLE, Int.reduceGE, Int.reduceGT, Int.reduceEq, Int.reduceNe, Int.reduceAdd, Int.reduceSub, Int.reduceNeg, decide_true, decide_false, Int.toNat_natCast, reduceCtorEq, List.nil_append, List.cons_append, AV.boxy, AV.cells, List.length_cons, List.length_nil, Nat.beq_refl, AOp.cl, ↓OW_guard, ↓DW_guard, KDW_0, KDW_1, KDW_2, OWskip_eq, fillA, setAt, DChk, DAt, stepA, ble_dec, beq_dec, Bool.and_self, Bool.and_true, Bool.true_and, Bool.and_false, Bool.false_and, List.take_succ_cons, List.take_zero, List.drop_succ_cons, List.drop_zero, List.take_nil, List.drop_nil, List.append_nil, eqAV, eqAVL, BEq.rfl, sameS, Option.map, Option.isNone, wrap64, gt_iff_lt, ge_iff_le, Int.lt_irrefl, Int.le_refl]
end
set_option maxHeartbeats 2000000
section
variable {α : Type} {E : Rep α} {s : Nat} {H : AHeap} {xs : List α} {v : AV}
/-- A row that is its own, of the cells of another one. -/
theorem SlE.row (hE : MonoE E) {a : Option (Nat × Nat)} {s0 n : Nat} {cl : Bool} (h : SlE E s H xs [.slice a s0 n cl]) : ∃ cs, srcA H s false (.slice a s0 n cl) = some (cs, xs.length) ∧ cs.length = xs.length * s ∧ ∀ j (hj : j < xs.length), E H xs[j] ((cs.drop (j * s)).take s) := by
  obtain ⟨a', s0', cl', e, k0, k1, k⟩ := h
  cases e
  by_cases h0 : xs.length = 0
  · refine ⟨[], ?_, by rw [h0]; simp, fun j hj => by omega⟩
    rw [h0]
    cases a <;> rfl
  · obtain ⟨x, o, cs, rfl, hr, hl, hj⟩ := k h0
    exact ⟨cs, srcA_slice hr hl, hl, hj⟩
theorem SlE.new (hE : MonoE E) {H' : AHeap} {x n : Nat} {cl : Bool} {cs : List AV} (hr : Rd H' x 0 cs) (hn : n = xs.length) (hl : cs.length = xs.length * s) (hm : xs.length ≤ maxLen) (hj : ∀ j (hj : j < xs.length), E H' xs[j] ((cs.drop (j * s)).take s)) : SlE E s H' xs [.slice (some (x, 0)) s n cl] := by
  subst hn
  exact ⟨_, _, _, rfl, .inr rfl, hm, fun _ => ⟨x, 0, cs, rfl, hr, hl, hj⟩⟩
theorem Sl.ubD {D : Nat → Prop} {n : Nat} {cs : List AV} (h : Sl H D s v n cs) {y : Nat} (hy : ub v = some y) : D y := SVok.ubD (x := .sl s n cs) h hy
end
set_option maxHeartbeats 4000000
theorem c_withinN (n lo hi : Int) (H : AHeap) (h0 : -1 ≤ lo) (h1 : lo ≤ hi) (h2 : hi ≤ 1099511627776) : CW MN 7 [.int .i64 n, .int .i64 lo, .int .i64 hi] H fun v H' => (∃ m, v = .int .i64 m ∧ lo ≤ m ∧ m ≤ hi) ∧ H' = H := by
  refine CW_of (fn := af7) rfl ?_
  unfold af7
  have w1 : IntKind.i64.wrap (hi - lo) = hi - lo := wrap64 (by omega) (by omega)
  have w2 : IntKind.i64.wrap (hi - lo + 1) = hi - lo + 1 := wrap64 (by omega) (by omega)
  have hd : ¬ hi - lo + 1 = 0 := by omega
  have b1 : n.tmod (hi - lo + 1) < hi - lo + 1 := Int.tmod_lt_of_pos n (by omega)
  have b2 : -(hi - lo + 1) < n.tmod (hi - lo + 1) := by
    have := Int.tmod_lt_of_pos (-n) (b := hi - lo + 1) (by omega)
    rw [Int.neg_tmod] at this
    omega
  have fin : ¬ (lo ≤ n ∧ n ≤ hi) → ∀ x, IntKind.i64.wrap x = x → (x = lo + n.tmod (hi - lo + 1) ∧ 0 ≤ n.tmod (hi - lo + 1) ∨ x = lo + (n.tmod (hi - lo + 1) + hi - lo + 1) ∧ n.tmod (hi - lo + 1) < 0) → ∃ m, AV.int .i64 x = .int .i64 m ∧ lo ≤ m ∧ m ≤ hi := fun _ x _ hx => ⟨x, rfl, by omega, by omega⟩
  have w3 : IntKind.i64.wrap (n.tmod (hi - lo + 1) + hi) = n.tmod (hi - lo + 1) + hi := wrap64 (by omega) (by omega)
  have w4 : IntKind.i64.wrap (n.tmod (hi - lo + 1) + hi - lo) = n.tmod (hi - lo + 1) + hi - lo := wrap64 (by omega) (by omega)
  have w5 : IntKind.i64.wrap (n.tmod (hi - lo + 1) + hi - lo + 1) = n.tmod (hi - lo + 1) + hi - lo + 1 := wrap64 (by omega) (by omega)
  have w6 : IntKind.i64.wrap (lo + (n.tmod (hi - lo + 1) + hi - lo + 1)) = lo + (n.tmod (hi - lo + 1) + hi - lo + 1) := wrap64 (by omega) (by omega)
  have w7 : IntKind.i64.wrap (lo + n.tmod (hi - lo + 1)) = lo + n.tmod (hi - lo + 1) := wrap64 (by omega) (by omega)
  by_cases c1 : lo ≤ n
  · by_cases c2 : n ≤ hi
    · simp -implicitDefEqProofs only [c1, c2, Bool.false_eq_true, ↓WP_seq, ↓WP_skip, ↓WP_region, ↓WP_dregion, ↓WP_cond, ↓WP_block, ↓WP_exit, ↓WP_ret, ↓OW_nil, ↓OW_cons, ↓DW_nil, ↓DW_cons, ↓XW_call, XW, exA, KO_eq, OptK_some, EvK_some, GW2_true, GW2_false, KS_normal, KS_ret, KS_exit, KB_normal, KB_ret, KB_exit, CP2_bool, RP_ret, putA_some, ev_t, ev_c, evs, evo, wantA, initA, resA, Tr.get_set, vl, chkOk, cond_true, cond_false, Nat.add_zero, Nat.mul_one, Nat.one_mul, Nat.zero_add, Nat.zero_mul, aggOf, pInt, binA, unA, intA, beq_true, beq_false, Bool.not_true, Bool.not_false, Bool.not_eq_true, and_self, and_true, true_and, ↓reduceIte, reduceIte, Nat.reduceEqDiff, Nat.succ_ne_self, Nat.reduceAdd, Nat.reduceMul, Nat.reduceSub, Nat.reduceBEq, Nat.reduceLT, Nat.reduceLeDiff, Int.cast_ofNat_Int, Int.reduceToNat, Int.reduceLT, Int.reduceLE, Int.reduceGE, Int.reduceGT, Int.reduceEq, Int.reduceNe, Int.reduceAdd, Int.reduceSub, Int.reduceNeg, decide_true, decide_false, Int.toNat_natCast, reduceCtorEq, List.nil_append, List.cons_append, AV.boxy, AV.cells, List.length_cons, List.length_nil, Nat.beq_refl, AOp.cl, ↓OW_guard, ↓DW_guard, KDW_0, KDW_1, KDW_2, OWskip_eq, fillA, setAt, DChk, DAt, stepA, ble_dec, beq_dec, Bool.and_self, Bool.and_true, Bool.true_and, Bool.and_false, Bool.false_and, List.take_succ_cons, List.take_zero, List.drop_succ_cons, List.drop_zero, List.take_nil, List.drop_nil, List.append_nil, eqAV, eqAVL, BEq.rfl, sameS, Option.map, Option.isNone, wrap64, gt_iff_lt, ge_iff_le, Int.lt_irrefl, Int.le_refl]
      exact ⟨n, rfl, c1, c2⟩
    · by_cases c3 : n.tmod (hi - lo + 1) < 0
      · simp -implicitDefEqProofs only [c1, c2, c3, w1, w2, w3, w4, w5, w6, hd, Bool.false_eq_true, ↓WP_seq, ↓WP_skip, ↓WP_region, ↓WP_dregion, ↓WP_cond, ↓WP_block, ↓WP_exit, ↓WP_ret, ↓OW_nil, ↓OW_cons, ↓DW_nil, ↓DW_cons, ↓XW_call, XW, exA, KO_eq, OptK_some, EvK_some, GW2_true, GW2_false, KS_normal, KS_ret, KS_exit, KB_normal, KB_ret, KB_exit, CP2_bool, RP_ret, putA_some, ev_t, ev_c, evs, evo, wantA, initA, resA, Tr.get_set, vl, chkOk, cond_true, cond_false, Nat.add_zero, Nat.mul_one, Nat.one_mul, Nat.zero_add, Nat.zero_mul, aggOf, pInt, binA, unA, intA, beq_true, beq_false, Bool.not_true, Bool.not_false, Bool.not_eq_true, and_self, and_true, true_and, ↓reduceIte, reduceIte, Nat.reduceEqDiff, Nat.succ_ne_self, Nat.reduceAdd, Nat.reduceMul, Nat.reduceSub, Nat.reduceBEq, Nat.reduceLT, Nat.reduceLeDiff, Int.cast_ofNat_Int, Int.reduceToNat, Int.reduceLT, Int.reduceLE, Int.reduceGE, Int.reduceGT, Int.reduceEq, Int.reduceNe, Int.reduceAdd, Int.reduceSub, Int.reduceNeg, decide_true, decide_false, Int.toNat_natCast, reduceCtorEq, List.nil_append, List.cons_append, AV.boxy, AV.cells, List.length_cons, List.length_nil, Nat.beq_refl, AOp.cl, ↓OW_guard, ↓DW_guard, KDW_0, KDW_1, KDW_2, OWskip_eq, fillA, setAt, DChk, DAt, stepA, ble_dec, beq_dec, Bool.and_self, Bool.and_true, Bool.true_and, Bool.and_false, Bool.false_and, List.take_succ_cons, List.take_zero, List.drop_succ_cons, List.drop_zero, List.take_nil, List.drop_nil, List.append_nil, eqAV, eqAVL, BEq.rfl, sameS, Option.map, Option.isNone, wrap64, gt_iff_lt, ge_iff_le, Int.lt_irrefl, Int.le_refl]
        exact fin (by omega) _ w6 (.inr ⟨rfl, c3⟩)
      · simp -implicitDefEqProofs only [c1, c2, c3, w1, w2, w7, hd, Bool.false_eq_true, ↓WP_seq, ↓WP_skip, ↓WP_region, ↓WP_dregion, ↓WP_cond, ↓WP_block, ↓WP_exit, ↓WP_ret, ↓OW_nil, ↓OW_cons, ↓DW_nil, ↓DW_cons, ↓XW_call, XW, exA, KO_eq, OptK_some, EvK_some, GW2_true, GW2_false, KS_normal, KS_ret, KS_exit, KB_normal, KB_ret, KB_exit, CP2_bool, RP_ret, putA_some, ev_t, ev_c, evs, evo, wantA, initA, resA, Tr.get_set, vl, chkOk, cond_true, cond_false, Nat.add_zero, Nat.mul_one, Nat.one_mul, Nat.zero_add, Nat.zero_mul, aggOf, pInt, binA, unA, intA, beq_true, beq_false, Bool.not_true, Bool.not_false, Bool.not_eq_true, and_self, and_true, true_and, ↓reduceIte, reduceIte, Nat.reduceEqDiff, Nat.succ_ne_self, Nat.reduceAdd, Nat.reduceMul, Nat.reduceSub, Nat.reduceBEq, Nat.reduceLT, Nat.reduceLeDiff, Int.cast_ofNat_Int, Int.reduceToNat, Int.reduceLT, Int.reduceLE, Int.reduceGE, Int.reduceGT, Int.reduceEq, Int.reduceNe, Int.reduceAdd, Int.reduceSub, Int.reduceNeg, decide_true, decide_false, Int.toNat_natCast, reduceCtorEq, List.nil_append, List.cons_append, AV.boxy, AV.cells, List.length_cons, List.length_nil, Nat.beq_refl, AOp.cl, ↓OW_guard, ↓DW_guard, KDW_0, KDW_1, KDW_2, OWskip_eq, fillA, setAt, DChk, DAt, stepA, ble_dec, beq_dec, Bool.and_self, Bool.and_true, Bool.true_and, Bool.and_false, Bool.false_and, List.take_succ_cons, List.take_zero, List.drop_succ_cons, List.drop_zero, List.take_nil, List.drop_nil, List.append_nil, eqAV, eqAVL, BEq.rfl, sameS, Option.map, Option.isNone, wrap64, gt_iff_lt, ge_iff_le, Int.lt_irrefl, Int.le_refl]
        exact fin (by omega) _ w7 (.inl ⟨rfl, by omega⟩)
  · by_cases c3 : n.tmod (hi - lo + 1) < 0
    · simp -implicitDefEqProofs only [c1, c3, w1, w2, w3, w4, w5, w6, hd, Bool.false_eq_true, ↓WP_seq, ↓WP_skip, ↓WP_region, ↓WP_dregion, ↓WP_cond, ↓WP_block, ↓WP_exit, ↓WP_ret, ↓OW_nil, ↓OW_cons, ↓DW_nil, ↓DW_cons, ↓XW_call, XW, exA, KO_eq, OptK_some, EvK_some, GW2_true, GW2_false, KS_normal, KS_ret, KS_exit, KB_normal, KB_ret, KB_exit, CP2_bool, RP_ret, putA_some, ev_t, ev_c, evs, evo, wantA, initA, resA, Tr.get_set, vl, chkOk, cond_true, cond_false, Nat.add_zero, Nat.mul_one, Nat.one_mul, Nat.zero_add, Nat.zero_mul, aggOf, pInt, binA, unA, intA, beq_true, beq_false, Bool.not_true, Bool.not_false, Bool.not_eq_true, and_self, and_true, true_and, ↓reduceIte, reduceIte, Nat.reduceEqDiff, Nat.succ_ne_self, Nat.reduceAdd, Nat.reduceMul, Nat.reduceSub, Nat.reduceBEq, Nat.reduceLT, Nat.reduceLeDiff, Int.cast_ofNat_Int, Int.reduceToNat, Int.reduceLT, Int.reduceLE, Int.reduceGE, Int.reduceGT, Int.reduceEq, Int.reduceNe, Int.reduceAdd, Int.reduceSub, Int.reduceNeg, decide_true, decide_false, Int.toNat_natCast, reduceCtorEq, List.nil_append, List.cons_append, AV.boxy, AV.cells, List.length_cons, List.length_nil, Nat.beq_refl, AOp.cl, ↓OW_guard, ↓DW_guard, KDW_0, KDW_1, KDW_2, OWskip_eq, fillA, setAt, DChk, DAt, stepA, ble_dec, beq_dec, Bool.and_self, Bool.and_true, Bool.true_and, Bool.and_false, Bool.false_and, List.take_succ_cons, List.take_zero, List.drop_succ_cons, List.drop_zero, List.take_nil, List.drop_nil, List.append_nil, eqAV, eqAVL, BEq.rfl, sameS, Option.map, Option.isNone, wrap64, gt_iff_lt, ge_iff_le, Int.lt_irrefl, Int.le_refl]
      exact fin (by omega) _ w6 (.inr ⟨rfl, c3⟩)
    · simp -implicitDefEqProofs only [c1, c3, w1, w2, w7, hd, Bool.false_eq_true, ↓WP_seq, ↓WP_skip, ↓WP_region, ↓WP_dregion, ↓WP_cond, ↓WP_block, ↓WP_exit, ↓WP_ret, ↓OW_nil, ↓OW_cons, ↓DW_nil, ↓DW_cons, ↓XW_call, XW, exA, KO_eq, OptK_some, EvK_some, GW2_true, GW2_false, KS_normal, KS_ret, KS_exit, KB_normal, KB_ret, KB_exit, CP2_bool, RP_ret, putA_some, ev_t, ev_c, evs, evo, wantA, initA, resA, Tr.get_set, vl, chkOk, cond_true, cond_false, Nat.add_zero, Nat.mul_one, Nat.one_mul, Nat.zero_add, Nat.zero_mul, aggOf, pInt, binA, unA, intA, beq_true, beq_false, Bool.not_true, Bool.not_false, Bool.not_eq_true, and_self, and_true, true_and, ↓reduceIte, reduceIte, Nat.reduceEqDiff, Nat.succ_ne_self, Nat.reduceAdd, Nat.reduceMul, Nat.reduceSub, Nat.reduceBEq, Nat.reduceLT, Nat.reduceLeDiff, Int.cast_ofNat_Int, Int.reduceToNat, Int.reduceLT, Int.reduceLE, Int.reduceGE, Int.reduceGT, Int.reduceEq, Int.reduceNe, Int.reduceAdd, Int.reduceSub, Int.reduceNeg, decide_true, decide_false, Int.toNat_natCast, reduceCtorEq, List.nil_append, List.cons_append, AV.boxy, AV.cells, List.length_cons, List.length_nil, Nat.beq_refl, AOp.cl, ↓OW_guard, ↓DW_guard, KDW_0, KDW_1, KDW_2, OWskip_eq, fillA, setAt, DChk, DAt, stepA, ble_dec, beq_dec, Bool.and_self, Bool.and_true, Bool.true_and, Bool.and_false, Bool.false_and, List.take_succ_cons, List.take_zero, List.drop_succ_cons, List.drop_zero, List.take_nil, List.drop_nil, List.append_nil, eqAV, eqAVL, BEq.rfl, sameS, Option.map, Option.isNone, wrap64, gt_iff_lt, ge_iff_le, Int.lt_irrefl, Int.le_refl]
      exact fin (by omega) _ w7 (.inl ⟨rfl, by omega⟩)
structure Ev4 where
  kind : Int
  proc : Int
  vk : Int
  vn : Int
deriving DecidableEq
def evC (e : Ev4) : List AV := [.int .i64 e.kind, .int .i64 e.proc, .int .i64 e.vk, .int .i64 e.vn]
abbrev EvE := EncE evC fun _ => True
theorem eqA_int4 (a b : Ev4) : eqA (.parts [(0, 1, .sc .int), (1, 1, .sc .int), (2, 2, .parts [(0, 1, .sc .int), (1, 1, .sc .int)])]) (.agg (evC a)) (.agg (evC b)) = some (decide (a = b)) := by
  obtain ⟨a1, a2, a3, a4⟩ := a
  obtain ⟨b1, b2, b3, b4⟩ := b
  by_cases h1 : a1 = b1 <;> by_cases h2 : a2 = b2 <;> by_cases h3 : a3 = b3 <;> by_cases h4 : a4 = b4 <;> simp [evC, eqA, eqD, eqPl, aggOf, ESh.isParts, sameS, h1, h2, h3, h4]
theorem evHne (a b : Ev4) : binA .neq (.parts [(0, 1, .sc .int), (1, 1, .sc .int), (2, 2, .parts [(0, 1, .sc .int), (1, 1, .sc .int)])]) (.agg (evC a)) (.agg (evC b)) = some (.bool (decide (a ≠ b))) := by
  simp only [binA, eqA_int4, Option.map]
  by_cases h : a = b <;> simp [h]
theorem evHrf (a : Ev4) : eqAV (.agg (evC a)) (.agg (evC a)) = true := by simp [eqAV, eqAVL, evC]
theorem c_eqEv {H : AHeap} {xs ys : List Ev4} {v w : AV} (h : SlE EvE 4 H xs [v]) (h' : SlE EvE 4 H ys [w]) : CW MN 24 [v, w] H fun u H' => u = .bool (decide (xs = ys)) ∧ H' = H :=
  c_equal (s := 4) (agg := true) (by rfl) h h' (el := fun a => .agg (evC a)) (fun a _ => rfl) evHne evHrf
section
variable {α : Type} {E : Rep α} {s : Nat} {H : AHeap} {xs : List α}
/-- The beginning of a slice. -/
theorem SlE.preE {a : Option (Nat × Nat)} {s0 n : Nat} {cl cl' : Bool} (h : SlE E s H xs [.slice a s0 n cl]) (k : Nat) (hk : k ≤ xs.length) : SlE E s H (xs.take k) [.slice a s0 k cl'] := by
  obtain ⟨a', s0', c, e, k0, k1, kk⟩ := h
  cases e
  have hl : (xs.take k).length = k := by rw [List.length_take]; omega
  refine ⟨a, s0, cl', by rw [hl], k0, by rw [hl]; omega, fun h0 => ?_⟩
  rw [hl] at h0
  obtain ⟨x, o, cs, rfl, hr, hcl, hj⟩ := kk (by omega)
  have hle : k * s ≤ xs.length * s := Nat.mul_le_mul_right s hk
  refine ⟨x, o, cs.take (k * s), rfl, hr.pre _, by rw [hl, List.length_take]; omega, fun j hj' => ?_⟩
  rw [hl] at hj'
  have := hj j (by omega)
  have hjs : j * s + s ≤ k * s := by rw [← Nat.succ_mul]; exact Nat.mul_le_mul_right s hj'
  rw [List.getElem_take, List.drop_take, List.take_take, show min s (k * s - j * s) = s by omega]
  exact this
theorem slE_none {a : Option (Nat × Nat)} {s0 n : Nat} {cl : Bool} (h : SlE E s H xs [.slice a s0 n cl]) : (a = none ∧ xs = [] ∧ n = 0) ∨ (∃ x o, a = some (x, o) ∧ s0 = s ∧ n = xs.length) := by
  obtain ⟨a', s0', c, e, k0, k1, kk⟩ := h
  cases e
  cases a with
  | none =>
    left
    by_cases h0 : xs.length = 0
    · exact ⟨rfl, List.eq_nil_of_length_eq_zero h0, h0⟩
    · obtain ⟨x, o, cs, e, -⟩ := kk h0; cases e
  | some p =>
    rcases k0 with k0 | k0
    · cases k0
    · exact .inr ⟨p.1, p.2, rfl, k0, rfl⟩
end
theorem slA_nil {s : Nat} {cl : Bool} : slA 0 0 s 0 cl none (some (.int .i64 (0 : Int))) none = some (.slice (some (0, 0)) s 0 (cl && true)) := by
  have b1 : ∀ d, boundA (some (.int .i64 (0 : Int))) 0 0 d = some 0 := fun d => rfl
  have b2 : boundA none 0 0 0 = some 0 := rfl
  simp only [slA, b1, b2, Option.isSome_none, Option.isNone_some, Bool.and_false, cond_false, Nat.zero_mul, Nat.add_zero, Nat.sub_zero, Nat.beq_refl]
theorem slA_pre {x o s n k : Nat} {cl : Bool} (h : k ≤ n) : slA x o s n cl none (some (.int .i64 (k : Int))) none = some (.slice (some (x, o)) s k (cl && k.beq n)) := by
  have b1 : ∀ d, boundA (some (.int .i64 (k : Int))) 0 n d = some k := fun d => bnd h
  have b2 : boundA none 0 k 0 = some 0 := rfl
  have b3 : boundA none 0 n n = some n := rfl
  simp only [slA, b1, b2, b3, Option.isSome_none, Option.isNone_some, Bool.and_false, cond_false, Nat.zero_mul, Nat.add_zero, Nat.sub_zero]
def prefB (xs ys : List Ev4) : Bool := decide (xs = ys.take xs.length)
def agB (xs ys : List Ev4) : Bool := decide (xs = ys) || ((xs.getLast?.map (·.kind)) == some 5 && prefB xs.dropLast ys)
theorem c_Prefix {H : AHeap} {xs ys : List Ev4} {v w : AV} (h : SlE EvE 4 H xs [v]) (h' : SlE EvE 4 H ys [w]) : CW MN 8 [v, w] H fun u H' => u = .bool (prefB xs ys) ∧ H' = H := by
  refine CW_of (fn := af8) rfl ?_
  unfold af8
  obtain ⟨a, s0, cl, rfl, -⟩ := h.shape
  obtain ⟨a', s0', cl', rfl, -⟩ := h'.shape
  by_cases hle : xs.length ≤ ys.length
  · have hle' : (xs.length : Int) ≤ (ys.length : Int) := by omega
    rcases slE_none h' with ⟨rfl, rfl, -⟩ | ⟨x, o, rfl, rfl, -⟩
    · have hx : xs = [] := List.eq_nil_of_length_eq_zero (by simpa using hle)
      subst hx
      simp -implicitDefEqProofs only [List.length_nil, slA_nil, Int.natCast_zero, ↓WP_seq, ↓WP_skip, ↓WP_region, ↓WP_dregion, ↓WP_cond, ↓WP_block, ↓WP_exit, ↓WP_ret, ↓OW_nil, ↓OW_cons, ↓DW_nil, ↓DW_cons, ↓XW_call, XW, exA, KO_eq, OptK_some, EvK_some, GW2_true, GW2_false, KS_normal, KS_ret, KS_exit, KB_normal, KB_ret, KB_exit, CP2_bool, RP_ret, putA_some, ev_t, ev_c, evs, evo, wantA, initA, resA, Tr.get_set, vl, chkOk, cond_true, cond_false, Nat.add_zero, Nat.mul_one, Nat.one_mul, Nat.zero_add, Nat.zero_mul, aggOf, pInt, binA, unA, intA, beq_true, beq_false, Bool.not_true, Bool.not_false, Bool.not_eq_true, and_self, and_true, true_and, ↓reduceIte, reduceIte, Nat.reduceEqDiff, Nat.succ_ne_self, Nat.reduceAdd, Nat.reduceMul, Nat.reduceSub, Nat.reduceBEq, Nat.reduceLT, Nat.reduceLeDiff, Int.cast_ofNat_Int, Int.reduceToNat, Int.reduceLT, Int.reduceLE, Int.reduceGE, Int.reduceGT, Int.reduceEq, Int.reduceNe, Int.reduceAdd, Int.reduceSub, Int.reduceNeg, decide_true, decide_false, Int.toNat_natCast, reduceCtorEq, List.nil_append, List.cons_append, AV.boxy, AV.cells, List.length_cons, List.length_nil, Nat.beq_refl, AOp.cl, ↓OW_guard, ↓DW_guard, KDW_0, KDW_1, KDW_2, OWskip_eq, fillA, setAt, DChk, DAt, stepA, ble_dec, beq_dec, Bool.and_self, Bool.and_true, Bool.true_and, Bool.and_false, Bool.false_and, List.take_succ_cons, List.take_zero, List.drop_succ_cons, List.drop_zero, List.take_nil, List.drop_nil, List.append_nil, eqAV, eqAVL, BEq.rfl, sameS, Option.map, Option.isNone, wrap64, gt_iff_lt, ge_iff_le, Int.lt_irrefl, Int.le_refl]
      refine CW.mono (c_eqEv h (ys := []) ⟨none, 4, true, rfl, .inl rfl, Nat.zero_le _, fun h => absurd rfl h⟩) ?_
      rintro u H' ⟨rfl, rfl⟩
      simp -implicitDefEqProofs only [↓WP_seq, ↓WP_skip, ↓WP_region, ↓WP_dregion, ↓WP_cond, ↓WP_block, ↓WP_exit, ↓WP_ret, ↓OW_nil, ↓OW_cons, ↓DW_nil, ↓DW_cons, ↓XW_call, XW, exA, KO_eq, OptK_some, EvK_some, GW2_true, GW2_false, KS_normal, KS_ret, KS_exit, KB_normal, KB_ret, KB_exit, CP2_bool, RP_ret, putA_some, ev_t, ev_c, evs, evo, wantA, initA, resA, Tr.get_set, vl, chkOk, cond_true, cond_false, Nat.add_zero, Nat.mul_one, Nat.one_mul, Nat.zero_add, Nat.zero_mul, aggOf, pInt, binA, unA, intA, beq_true, beq_false, Bool.not_true, Bool.not_false, Bool.not_eq_true, and_self, and_true, true_and, ↓reduceIte, reduceIte, Nat.reduceEqDiff, Nat.succ_ne_self, Nat.reduceAdd, Nat.reduceMul, Nat.reduceSub, Nat.reduceBEq, Nat.reduceLT, Nat.reduceLeDiff, Int.cast_ofNat_Int, Int.reduceToNat, Int.reduceLT, Int.reduceLE, Int.reduceGE, Int.reduceGT, Int.reduceEq, Int.reduceNe, Int.reduceAdd, Int.reduceSub, Int.reduceNeg, decide_true, decide_false, Int.toNat_natCast, reduceCtorEq, List.nil_append, List.cons_append, AV.boxy, AV.cells, List.length_cons, List.length_nil, Nat.beq_refl, AOp.cl, ↓OW_guard, ↓DW_guard, KDW_0, KDW_1, KDW_2, OWskip_eq, fillA, setAt, DChk, DAt, stepA, ble_dec, beq_dec, Bool.and_self, Bool.and_true, Bool.true_and, Bool.and_false, Bool.false_and, List.take_succ_cons, List.take_zero, List.drop_succ_cons, List.drop_zero, List.take_nil, List.drop_nil, List.append_nil, eqAV, eqAVL, BEq.rfl, sameS, Option.map, Option.isNone, wrap64, gt_iff_lt, ge_iff_le, Int.lt_irrefl, Int.le_refl]
      rfl
    · have e1 := slA_pre (x := x) (o := o) (s := 4) (cl := cl') hle
      simp -implicitDefEqProofs only [hle', e1, ↓WP_seq, ↓WP_skip, ↓WP_region, ↓WP_dregion, ↓WP_cond, ↓WP_block, ↓WP_exit, ↓WP_ret, ↓OW_nil, ↓OW_cons, ↓DW_nil, ↓DW_cons, ↓XW_call, XW, exA, KO_eq, OptK_some, EvK_some, GW2_true, GW2_false, KS_normal, KS_ret, KS_exit, KB_normal, KB_ret, KB_exit, CP2_bool, RP_ret, putA_some, ev_t, ev_c, evs, evo, wantA, initA, resA, Tr.get_set, vl, chkOk, cond_true, cond_false, Nat.add_zero, Nat.mul_one, Nat.one_mul, Nat.zero_add, Nat.zero_mul, aggOf, pInt, binA, unA, intA, beq_true, beq_false, Bool.not_true, Bool.not_false, Bool.not_eq_true, and_self, and_true, true_and, ↓reduceIte, reduceIte, Nat.reduceEqDiff, Nat.succ_ne_self, Nat.reduceAdd, Nat.reduceMul, Nat.reduceSub, Nat.reduceBEq, Nat.reduceLT, Nat.reduceLeDiff, Int.cast_ofNat_Int, Int.reduceToNat, Int.reduceLT, Int.reduceLE, Int.reduceGE, Int.reduceGT, Int.reduceEq, Int.reduceNe, Int.reduceAdd, Int.reduceSub, Int.reduceNeg, decide_true, decide_false, Int.toNat_natCast, reduceCtorEq, List.nil_append, List.cons_append, AV.boxy, AV.cells, List.length_cons, List.length_nil, Nat.beq_refl, AOp.cl, ↓OW_guard, ↓DW_guard, KDW_0, KDW_1, KDW_2, OWskip_eq, fillA, setAt, DChk, DAt, stepA, ble_dec, beq_dec, Bool.and_self, Bool.and_true, Bool.true_and, Bool.and_false, Bool.false_and, List.take_succ_cons, List.take_zero, List.drop_succ_cons, List.drop_zero, List.take_nil, List.drop_nil, List.append_nil, eqAV, eqAVL, BEq.rfl, sameS, Option.map, Option.isNone, wrap64, gt_iff_lt, ge_iff_le, Int.lt_irrefl, Int.le_refl]
      refine CW.mono (c_eqEv h (h'.preE xs.length hle)) ?_
      rintro u H' ⟨rfl, rfl⟩
      simp -implicitDefEqProofs only [↓WP_seq, ↓WP_skip, ↓WP_region, ↓WP_dregion, ↓WP_cond, ↓WP_block, ↓WP_exit, ↓WP_ret, ↓OW_nil, ↓OW_cons, ↓DW_nil, ↓DW_cons, ↓XW_call, XW, exA, KO_eq, OptK_some, EvK_some, GW2_true, GW2_false, KS_normal, KS_ret, KS_exit, KB_normal, KB_ret, KB_exit, CP2_bool, RP_ret, putA_some, ev_t, ev_c, evs, evo, wantA, initA, resA, Tr.get_set, vl, chkOk, cond_true, cond_false, Nat.add_zero, Nat.mul_one, Nat.one_mul, Nat.zero_add, Nat.zero_mul, aggOf, pInt, binA, unA, intA, beq_true, beq_false, Bool.not_true, Bool.not_false, Bool.not_eq_true, and_self, and_true, true_and, ↓reduceIte, reduceIte, Nat.reduceEqDiff, Nat.succ_ne_self, Nat.reduceAdd, Nat.reduceMul, Nat.reduceSub, Nat.reduceBEq, Nat.reduceLT, Nat.reduceLeDiff, Int.cast_ofNat_Int, Int.reduceToNat, Int.reduceLT, Int.reduceLE, Int.reduceGE, Int.reduceGT, Int.reduceEq, Int.reduceNe, Int.reduceAdd, Int.reduceSub, Int.reduceNeg, decide_true, decide_false, Int.toNat_natCast, reduceCtorEq, List.nil_append, List.cons_append, AV.boxy, AV.cells, List.length_cons, List.length_nil, Nat.beq_refl, AOp.cl, ↓OW_guard, ↓DW_guard, KDW_0, KDW_1, KDW_2, OWskip_eq, fillA, setAt, DChk, DAt, stepA, ble_dec, beq_dec, Bool.and_self, Bool.and_true, Bool.true_and, Bool.and_false, Bool.false_and, List.take_succ_cons, List.take_zero, List.drop_succ_cons, List.drop_zero, List.take_nil, List.drop_nil, List.append_nil, eqAV, eqAVL, BEq.rfl, sameS, Option.map, Option.isNone, wrap64, gt_iff_lt, ge_iff_le, Int.lt_irrefl, Int.le_refl]
      rfl
  · have hle' : ¬ (xs.length : Int) ≤ (ys.length : Int) := by omega
    have : prefB xs ys = false := decide_eq_false fun e => hle (by
      have := congrArg List.length e
      rw [List.length_take] at this; omega)
    rw [this]
    simp -implicitDefEqProofs only [hle', Bool.false_eq_true, ↓WP_seq, ↓WP_skip, ↓WP_region, ↓WP_dregion, ↓WP_cond, ↓WP_block, ↓WP_exit, ↓WP_ret, ↓OW_nil, ↓OW_cons, ↓DW_nil, ↓DW_cons, ↓XW_call, XW, exA, KO_eq, OptK_some, EvK_some, GW2_true, GW2_false, KS_normal, KS_ret, KS_exit, KB_normal, KB_ret, KB_exit, CP2_bool, RP_ret, putA_some, ev_t, ev_c, evs, evo, wantA, initA, resA, Tr.get_set, vl, chkOk, cond_true, cond_false, Nat.add_zero, Nat.mul_one, Nat.one_mul, Nat.zero_add, Nat.zero_mul, aggOf, pInt, binA, unA, intA, beq_true, beq_false, Bool.not_true, Bool.not_false, Bool.not_eq_true, and_self, and_true, true_and, ↓reduceIte, reduceIte, Nat.reduceEqDiff, Nat.succ_ne_self, Nat.reduceAdd, Nat.reduceMul, Nat.reduceSub, Nat.reduceBEq, Nat.reduceLT, Nat.reduceLeDiff, Int.cast_ofNat_Int, Int.reduceToNat, Int.reduceLT, Int.reduceLE, Int.reduceGE, Int.reduceGT, Int.reduceEq, Int.reduceNe, Int.reduceAdd, Int.reduceSub, Int.reduceNeg, decide_true, decide_false, Int.toNat_natCast, reduceCtorEq, List.nil_append, List.cons_append, AV.boxy, AV.cells, List.length_cons, List.length_nil, Nat.beq_refl, AOp.cl, ↓OW_guard, ↓DW_guard, KDW_0, KDW_1, KDW_2, OWskip_eq, fillA, setAt, DChk, DAt, stepA, ble_dec, beq_dec, Bool.and_self, Bool.and_true, Bool.true_and, Bool.and_false, Bool.false_and, List.take_succ_cons, List.take_zero, List.drop_succ_cons, List.drop_zero, List.take_nil, List.drop_nil, List.append_nil, eqAV, eqAVL, BEq.rfl, sameS, Option.map, Option.isNone, wrap64, gt_iff_lt, ge_iff_le, Int.lt_irrefl, Int.le_refl]
theorem c_Agrees {H : AHeap} {xs ys : List Ev4} {v w : AV} (h : SlE EvE 4 H xs [v]) (h' : SlE EvE 4 H ys [w]) : CW MN 9 [v, w] H fun u H' => u = .bool (agB xs ys) ∧ H' = H := by
  refine CW_of (fn := af9) rfl ?_
  unfold af9
  obtain ⟨a, s0, cl, rfl, -⟩ := h.shape
  have hmax := h.max
  simp -implicitDefEqProofs only [↓WP_seq, ↓WP_skip, ↓WP_region, ↓WP_dregion, ↓WP_cond, ↓WP_block, ↓WP_exit, ↓WP_ret, ↓OW_nil, ↓OW_cons, ↓DW_nil, ↓DW_cons, ↓XW_call, XW, exA, KO_eq, OptK_some, EvK_some, GW2_true, GW2_false, KS_normal, KS_ret, KS_exit, KB_normal, KB_ret, KB_exit, CP2_bool, RP_ret, putA_some, ev_t, ev_c, evs, evo, wantA, initA, resA, Tr.get_set, vl, chkOk, cond_true, cond_false, Nat.add_zero, Nat.mul_one, Nat.one_mul, Nat.zero_add, Nat.zero_mul, aggOf, pInt, binA, unA, intA, beq_true, beq_false, Bool.not_true, Bool.not_false, Bool.not_eq_true, and_self, and_true, true_and, ↓reduceIte, reduceIte, Nat.reduceEqDiff, Nat.succ_ne_self, Nat.reduceAdd, Nat.reduceMul, Nat.reduceSub, Nat.reduceBEq, Nat.reduceLT, Nat.reduceLeDiff, Int.cast_ofNat_Int, Int.reduceToNat, Int.reduceLT, Int.reduceLE, Int.reduceGE, Int.reduceGT, Int.reduceEq, Int.reduceNe, Int.reduceAdd, Int.reduceSub, Int.reduceNeg, decide_true, decide_false, Int.toNat_natCast, reduceCtorEq, List.nil_append, List.cons_append, AV.boxy, AV.cells, List.length_cons, List.length_nil, Nat.beq_refl, AOp.cl, ↓OW_guard, ↓DW_guard, KDW_0, KDW_1, KDW_2, OWskip_eq, fillA, setAt, DChk, DAt, stepA, ble_dec, beq_dec, Bool.and_self, Bool.and_true, Bool.true_and, Bool.and_false, Bool.false_and, List.take_succ_cons, List.take_zero, List.drop_succ_cons, List.drop_zero, List.take_nil, List.drop_nil, List.append_nil, eqAV, eqAVL, BEq.rfl, sameS, Option.map, Option.isNone, wrap64, gt_iff_lt, ge_iff_le, Int.lt_irrefl, Int.le_refl]
  refine CW.mono (c_eqEv h h') ?_
  rintro u H' ⟨rfl, rfl⟩
  by_cases heq : xs = ys
  · have : agB xs ys = true := by unfold agB; rw [decide_eq_true heq]; rfl
    rw [this]
    simp -implicitDefEqProofs only [heq, ↓WP_seq, ↓WP_skip, ↓WP_region, ↓WP_dregion, ↓WP_cond, ↓WP_block, ↓WP_exit, ↓WP_ret, ↓OW_nil, ↓OW_cons, ↓DW_nil, ↓DW_cons, ↓XW_call, XW, exA, KO_eq, OptK_some, EvK_some, GW2_true, GW2_false, KS_normal, KS_ret, KS_exit, KB_normal, KB_ret, KB_exit, CP2_bool, RP_ret, putA_some, ev_t, ev_c, evs, evo, wantA, initA, resA, Tr.get_set, vl, chkOk, cond_true, cond_false, Nat.add_zero, Nat.mul_one, Nat.one_mul, Nat.zero_add, Nat.zero_mul, aggOf, pInt, binA, unA, intA, beq_true, beq_false, Bool.not_true, Bool.not_false, Bool.not_eq_true, and_self, and_true, true_and, ↓reduceIte, reduceIte, Nat.reduceEqDiff, Nat.succ_ne_self, Nat.reduceAdd, Nat.reduceMul, Nat.reduceSub, Nat.reduceBEq, Nat.reduceLT, Nat.reduceLeDiff, Int.cast_ofNat_Int, Int.reduceToNat, Int.reduceLT, Int.reduceLE, Int.reduceGE, Int.reduceGT, Int.reduceEq, Int.reduceNe, Int.reduceAdd, Int.reduceSub, Int.reduceNeg, decide_true, decide_false, Int.toNat_natCast, reduceCtorEq, List.nil_append, List.cons_append, AV.boxy, AV.cells, List.length_cons, List.length_nil, Nat.beq_refl, AOp.cl, ↓OW_guard, ↓DW_guard, KDW_0, KDW_1, KDW_2, OWskip_eq, fillA, setAt, DChk, DAt, stepA, ble_dec, beq_dec, Bool.and_self, Bool.and_true, Bool.true_and, Bool.and_false, Bool.false_and, List.take_succ_cons, List.take_zero, List.drop_succ_cons, List.drop_zero, List.take_nil, List.drop_nil, List.append_nil, eqAV, eqAVL, BEq.rfl, sameS, Option.map, Option.isNone, wrap64, gt_iff_lt, ge_iff_le, Int.lt_irrefl, Int.le_refl]
  · unfold agB
    rw [decide_eq_false heq, Bool.false_or]
    have w1 : IntKind.i64.wrap ((xs.length : Int) - 1) = (xs.length : Int) - 1 := wrap64 (by omega) (by omega)
    rcases List.eq_nil_or_concat xs with rfl | ⟨p, e, rfl⟩
    · simp -implicitDefEqProofs only [w1, Bool.false_eq_true, List.length_nil, Int.natCast_zero, Int.zero_sub, ↓WP_seq, ↓WP_skip, ↓WP_region, ↓WP_dregion, ↓WP_cond, ↓WP_block, ↓WP_exit, ↓WP_ret, ↓OW_nil, ↓OW_cons, ↓DW_nil, ↓DW_cons, ↓XW_call, XW, exA, KO_eq, OptK_some, EvK_some, GW2_true, GW2_false, KS_normal, KS_ret, KS_exit, KB_normal, KB_ret, KB_exit, CP2_bool, RP_ret, putA_some, ev_t, ev_c, evs, evo, wantA, initA, resA, Tr.get_set, vl, chkOk, cond_true, cond_false, Nat.add_zero, Nat.mul_one, Nat.one_mul, Nat.zero_add, Nat.zero_mul, aggOf, pInt, binA, unA, intA, beq_true, beq_false, Bool.not_true, Bool.not_false, Bool.not_eq_true, and_self, and_true, true_and, ↓reduceIte, reduceIte, Nat.reduceEqDiff, Nat.succ_ne_self, Nat.reduceAdd, Nat.reduceMul, Nat.reduceSub, Nat.reduceBEq, Nat.reduceLT, Nat.reduceLeDiff, Int.cast_ofNat_Int, Int.reduceToNat, Int.reduceLT, Int.reduceLE, Int.reduceGE, Int.reduceGT, Int.reduceEq, Int.reduceNe, Int.reduceAdd, Int.reduceSub, Int.reduceNeg, decide_true, decide_false, Int.toNat_natCast, reduceCtorEq, List.nil_append, List.cons_append, AV.boxy, AV.cells, List.length_cons, List.length_nil, Nat.beq_refl, AOp.cl, ↓OW_guard, ↓DW_guard, KDW_0, KDW_1, KDW_2, OWskip_eq, fillA, setAt, DChk, DAt, stepA, ble_dec, beq_dec, Bool.and_self, Bool.and_true, Bool.true_and, Bool.and_false, Bool.false_and, List.take_succ_cons, List.take_zero, List.drop_succ_cons, List.drop_zero, List.take_nil, List.drop_nil, List.append_nil, eqAV, eqAVL, BEq.rfl, sameS, Option.map, Option.isNone, wrap64, gt_iff_lt, ge_iff_le, Int.lt_irrefl, Int.le_refl]
      rfl
    · rw [List.concat_eq_append] at *
      have hl : (p ++ [e]).length = p.length + 1 := by simp
      have e1 : (((p ++ [e]).length : Nat) : Int) - 1 = ((p.length : Nat) : Int) := by rw [hl]; omega
      rw [e1] at w1
      obtain ⟨x, o, l, rfl, rfl, ld, hll, ⟨rfl, -⟩, hrd⟩ := h.at (i := p.length) (by rw [hl]; omega)
      have eg : (p ++ [e])[p.length]'(by rw [hl]; omega) = e := by simp
      rw [eg] at ld hrd
      have hlt : (p.length : Int) < (((p ++ [e]).length : Nat) : Int) := by rw [hl]; omega
      have i0 : (0 : Int) ≤ (p.length : Int) := by omega
      have ld0 : loadA H' x (o + p.length * 4) 1 = some [.int .i64 e.kind] := by
        have := hrd.one (j := 0) (v := .int .i64 e.kind) rfl
        rwa [Nat.add_zero] at this
      have e2 := slA_pre (x := x) (o := o) (s := 4) (n := (p ++ [e]).length) (k := p.length) (cl := cl) (by rw [hl]; omega)
      have hlast : (p ++ [e]).getLast? = some e := by simp
      have hdl : (p ++ [e]).dropLast = p := by simp
      rw [hlast, hdl, Option.map_some]
      by_cases hk : e.kind = 5
      · have hkb : (some e.kind == some (5 : Int)) = true := by rw [hk]; rfl
        rw [hkb, Bool.true_and]
        simp -implicitDefEqProofs only [e1, w1, hlt, i0, ld0, hk, e2, Bool.false_eq_true, ↓WP_seq, ↓WP_skip, ↓WP_region, ↓WP_dregion, ↓WP_cond, ↓WP_block, ↓WP_exit, ↓WP_ret, ↓OW_nil, ↓OW_cons, ↓DW_nil, ↓DW_cons, ↓XW_call, XW, exA, KO_eq, OptK_some, EvK_some, GW2_true, GW2_false, KS_normal, KS_ret, KS_exit, KB_normal, KB_ret, KB_exit, CP2_bool, RP_ret, putA_some, ev_t, ev_c, evs, evo, wantA, initA, resA, Tr.get_set, vl, chkOk, cond_true, cond_false, Nat.add_zero, Nat.mul_one, Nat.one_mul, Nat.zero_add, Nat.zero_mul, aggOf, pInt, binA, unA, intA, beq_true, beq_false, Bool.not_true, Bool.not_false, Bool.not_eq_true, and_self, and_true, true_and, ↓reduceIte, reduceIte, Nat.reduceEqDiff, Nat.succ_ne_self, Nat.reduceAdd, Nat.reduceMul, Nat.reduceSub, Nat.reduceBEq, Nat.reduceLT, Nat.reduceLeDiff, Int.cast_ofNat_Int, Int.reduceToNat, Int.reduceLT, Int.reduceLE, Int.reduceGE, Int.reduceGT, Int.reduceEq, Int.reduceNe, Int.reduceAdd, Int.reduceSub, Int.reduceNeg, decide_true, decide_false, Int.toNat_natCast, reduceCtorEq, List.nil_append, List.cons_append, AV.boxy, AV.cells, List.length_cons, List.length_nil, Nat.beq_refl, AOp.cl, ↓OW_guard, ↓DW_guard, KDW_0, KDW_1, KDW_2, OWskip_eq, fillA, setAt, DChk, DAt, stepA, ble_dec, beq_dec, Bool.and_self, Bool.and_true, Bool.true_and, Bool.and_false, Bool.false_and, List.take_succ_cons, List.take_zero, List.drop_succ_cons, List.drop_zero, List.take_nil, List.drop_nil, List.append_nil, eqAV, eqAVL, BEq.rfl, sameS, Option.map, Option.isNone, wrap64, gt_iff_lt, ge_iff_le, Int.lt_irrefl, Int.le_refl]
        have hpre := fun cl' => h.preE (cl' := cl') p.length (by rw [hl]; omega)
        simp only [List.take_left] at hpre
        refine CW.mono (c_Prefix (hpre _) h') ?_
        rintro u H' ⟨rfl, rfl⟩
        simp -implicitDefEqProofs only [e1, w1, hlt, i0, ld0, hk, e2, Bool.false_eq_true, ↓WP_seq, ↓WP_skip, ↓WP_region, ↓WP_dregion, ↓WP_cond, ↓WP_block, ↓WP_exit, ↓WP_ret, ↓OW_nil, ↓OW_cons, ↓DW_nil, ↓DW_cons, ↓XW_call, XW, exA, KO_eq, OptK_some, EvK_some, GW2_true, GW2_false, KS_normal, KS_ret, KS_exit, KB_normal, KB_ret, KB_exit, CP2_bool, RP_ret, putA_some, ev_t, ev_c, evs, evo, wantA, initA, resA, Tr.get_set, vl, chkOk, cond_true, cond_false, Nat.add_zero, Nat.mul_one, Nat.one_mul, Nat.zero_add, Nat.zero_mul, aggOf, pInt, binA, unA, intA, beq_true, beq_false, Bool.not_true, Bool.not_false, Bool.not_eq_true, and_self, and_true, true_and, ↓reduceIte, reduceIte, Nat.reduceEqDiff, Nat.succ_ne_self, Nat.reduceAdd, Nat.reduceMul, Nat.reduceSub, Nat.reduceBEq, Nat.reduceLT, Nat.reduceLeDiff, Int.cast_ofNat_Int, Int.reduceToNat, Int.reduceLT, Int.reduceLE, Int.reduceGE, Int.reduceGT, Int.reduceEq, Int.reduceNe, Int.reduceAdd, Int.reduceSub, Int.reduceNeg, decide_true, decide_false, Int.toNat_natCast, reduceCtorEq, List.nil_append, List.cons_append, AV.boxy, AV.cells, List.length_cons, List.length_nil, Nat.beq_refl, AOp.cl, ↓OW_guard, ↓DW_guard, KDW_0, KDW_1, KDW_2, OWskip_eq, fillA, setAt, DChk, DAt, stepA, ble_dec, beq_dec, Bool.and_self, Bool.and_true, Bool.true_and, Bool.and_false, Bool.false_and, List.take_succ_cons, List.take_zero, List.drop_succ_cons, List.drop_zero, List.take_nil, List.drop_nil, List.append_nil, eqAV, eqAVL, BEq.rfl, sameS, Option.map, Option.isNone, wrap64, gt_iff_lt, ge_iff_le, Int.lt_irrefl, Int.le_refl]
      · have hkb : (some e.kind == some (5 : Int)) = false := by simpa using hk
        have hk' : (e.kind == 5) = false := by simpa using hk
        rw [hkb, Bool.false_and]
        simp -implicitDefEqProofs only [e1, w1, hlt, i0, ld0, hk', e2, Bool.false_eq_true, ↓WP_seq, ↓WP_skip, ↓WP_region, ↓WP_dregion, ↓WP_cond, ↓WP_block, ↓WP_exit, ↓WP_ret, ↓OW_nil, ↓OW_cons, ↓DW_nil, ↓DW_cons, ↓XW_call, XW, exA, KO_eq, OptK_some, EvK_some, GW2_true, GW2_false, KS_normal, KS_ret, KS_exit, KB_normal, KB_ret, KB_exit, CP2_bool, RP_ret, putA_some, ev_t, ev_c, evs, evo, wantA, initA, resA, Tr.get_set, vl, chkOk, cond_true, cond_false, Nat.add_zero, Nat.mul_one, Nat.one_mul, Nat.zero_add, Nat.zero_mul, aggOf, pInt, binA, unA, intA, beq_true, beq_false, Bool.not_true, Bool.not_false, Bool.not_eq_true, and_self, and_true, true_and, ↓reduceIte, reduceIte, Nat.reduceEqDiff, Nat.succ_ne_self, Nat.reduceAdd, Nat.reduceMul, Nat.reduceSub, Nat.reduceBEq, Nat.reduceLT, Nat.reduceLeDiff, Int.cast_ofNat_Int, Int.reduceToNat, Int.reduceLT, Int.reduceLE, Int.reduceGE, Int.reduceGT, Int.reduceEq, Int.reduceNe, Int.reduceAdd, Int.reduceSub, Int.reduceNeg, decide_true, decide_false, Int.toNat_natCast, reduceCtorEq, List.nil_append, List.cons_append, AV.boxy, AV.cells, List.length_cons, List.length_nil, Nat.beq_refl, AOp.cl, ↓OW_guard, ↓DW_guard, KDW_0, KDW_1, KDW_2, OWskip_eq, fillA, setAt, DChk, DAt, stepA, ble_dec, beq_dec, Bool.and_self, Bool.and_true, Bool.true_and, Bool.and_false, Bool.false_and, List.take_succ_cons, List.take_zero, List.drop_succ_cons, List.drop_zero, List.take_nil, List.drop_nil, List.append_nil, eqAV, eqAVL, BEq.rfl, sameS, Option.map, Option.isNone, wrap64, gt_iff_lt, ge_iff_le, Int.lt_irrefl, Int.le_refl]
theorem prefB_self (l : List Ev4) {a b : Nat} (h : a ≤ b) (hb : b ≤ l.length) : prefB (l.take a) (l.take b) = true := by
  refine decide_eq_true ?_
  rw [List.length_take, List.take_take]
  congr 1
  omega
theorem prefB_iff (l : List Ev4) {a b : Nat} (ha : a ≤ l.length) (hb : b ≤ l.length) : prefB (l.take a) (l.take b) = decide (a ≤ b) := by
  by_cases h : a ≤ b
  · rw [prefB_self l h hb, decide_eq_true h]
  · rw [decide_eq_false h]
    refine decide_eq_false fun e => ?_
    have := congrArg List.length e
    simp only [List.length_take] at this
    omega
theorem agB_low {p ys : List Ev4} {e : Ev4} (hk : e.kind = 5) (h : prefB p ys = true) : agB (p ++ [e]) ys = true := by
  unfold agB
  have hlast : (p ++ [e]).getLast? = some e := by simp
  have hdl : (p ++ [e]).dropLast = p := by simp
  rw [hlast, hdl, Option.map_some]
  simp [hk, h]
theorem agB_self (l : List Ev4) : agB l l = true := by simp [agB]
set_option maxHeartbeats 4000000
theorem c_HeapN {H : AHeap} : CW MN 25 [.ptr none] H fun u H' => u = .bool false ∧ H' = H := by
  refine CW_of (fn := af25) rfl ?_
  unfold af25
  simp -implicitDefEqProofs only [↓WP_seq, ↓WP_skip, ↓WP_region, ↓WP_dregion, ↓WP_cond, ↓WP_block, ↓WP_exit, ↓WP_ret, ↓OW_nil, ↓OW_cons, ↓DW_nil, ↓DW_cons, ↓XW_call, XW, exA, KO_eq, OptK_some, EvK_some, GW2_true, GW2_false, KS_normal, KS_ret, KS_exit, KB_normal, KB_ret, KB_exit, CP2_bool, RP_ret, putA_some, ev_t, ev_c, evs, evo, wantA, initA, resA, Tr.get_set, vl, chkOk, cond_true, cond_false, Nat.add_zero, Nat.mul_one, Nat.one_mul, Nat.zero_add, Nat.zero_mul, aggOf, pInt, binA, unA, intA, beq_true, beq_false, Bool.not_true, Bool.not_false, Bool.not_eq_true, and_self, and_true, true_and, ↓reduceIte, reduceIte, Nat.reduceEqDiff, Nat.succ_ne_self, Nat.reduceAdd, Nat.reduceMul, Nat.reduceSub, Nat.reduceBEq, Nat.reduceLT, Nat.reduceLeDiff, Int.cast_ofNat_Int, Int.reduceToNat, Int.reduceLT, Int.reduceLE, Int.reduceGE, Int.reduceGT, Int.reduceEq, Int.reduceNe, Int.reduceAdd, Int.reduceSub, Int.reduceNeg, decide_true, decide_false, Int.toNat_natCast, reduceCtorEq, List.nil_append, List.cons_append, AV.boxy, AV.cells, List.length_cons, List.length_nil, Nat.beq_refl, AOp.cl, ↓OW_guard, ↓DW_guard, KDW_0, KDW_1, KDW_2, OWskip_eq, fillA, setAt, DChk, DAt, stepA, ble_dec, beq_dec, Bool.and_self, Bool.and_true, Bool.true_and, Bool.and_false, Bool.false_and, List.take_succ_cons, List.take_zero, List.drop_succ_cons, List.drop_zero, List.take_nil, List.drop_nil, List.append_nil, eqAV, eqAVL, BEq.rfl, eqA, eqD, sameS, Option.map, Option.isNone, wrap64, gt_iff_lt, ge_iff_le, Int.lt_irrefl, Int.le_refl]
theorem c_SafeN {H : AHeap} {v : AV} : CW MN 26 [.ptr none, v] H fun u H' => u = .bool false ∧ Sm H H' := by
  refine CW_of (fn := af26) rfl ?_
  unfold af26
  have l := (Rd.newRow H [.ptr none]).load (n := 1) rfl
  simp -implicitDefEqProofs only [l, ↓WP_seq, ↓WP_skip, ↓WP_region, ↓WP_dregion, ↓WP_cond, ↓WP_block, ↓WP_exit, ↓WP_ret, ↓OW_nil, ↓OW_cons, ↓DW_nil, ↓DW_cons, ↓XW_call, XW, exA, KO_eq, OptK_some, EvK_some, GW2_true, GW2_false, KS_normal, KS_ret, KS_exit, KB_normal, KB_ret, KB_exit, CP2_bool, RP_ret, putA_some, ev_t, ev_c, evs, evo, wantA, initA, resA, Tr.get_set, vl, chkOk, cond_true, cond_false, Nat.add_zero, Nat.mul_one, Nat.one_mul, Nat.zero_add, Nat.zero_mul, aggOf, pInt, binA, unA, intA, beq_true, beq_false, Bool.not_true, Bool.not_false, Bool.not_eq_true, and_self, and_true, true_and, ↓reduceIte, reduceIte, Nat.reduceEqDiff, Nat.succ_ne_self, Nat.reduceAdd, Nat.reduceMul, Nat.reduceSub, Nat.reduceBEq, Nat.reduceLT, Nat.reduceLeDiff, Int.cast_ofNat_Int, Int.reduceToNat, Int.reduceLT, Int.reduceLE, Int.reduceGE, Int.reduceGT, Int.reduceEq, Int.reduceNe, Int.reduceAdd, Int.reduceSub, Int.reduceNeg, decide_true, decide_false, Int.toNat_natCast, reduceCtorEq, List.nil_append, List.cons_append, AV.boxy, AV.cells, List.length_cons, List.length_nil, Nat.beq_refl, AOp.cl, ↓OW_guard, ↓DW_guard, KDW_0, KDW_1, KDW_2, OWskip_eq, fillA, setAt, DChk, DAt, stepA, ble_dec, beq_dec, Bool.and_self, Bool.and_true, Bool.true_and, Bool.and_false, Bool.false_and, List.take_succ_cons, List.take_zero, List.drop_succ_cons, List.drop_zero, List.take_nil, List.drop_nil, List.append_nil, eqAV, eqAVL, BEq.rfl, eqA, eqD, sameS, Option.map, Option.isNone, wrap64, gt_iff_lt, ge_iff_le, Int.lt_irrefl, Int.le_refl]
  exact Chg.newRow H _
theorem c_LiveN {H : AHeap} {v : AV} : CW MN 27 [.ptr none, v] H fun u H' => u = .int .i64 0 ∧ H' = H := by
  refine CW_of (fn := af27) rfl ?_
  unfold af27
  simp -implicitDefEqProofs only [↓WP_seq, ↓WP_skip, ↓WP_region, ↓WP_dregion, ↓WP_cond, ↓WP_block, ↓WP_exit, ↓WP_ret, ↓OW_nil, ↓OW_cons, ↓DW_nil, ↓DW_cons, ↓XW_call, XW, exA, KO_eq, OptK_some, EvK_some, GW2_true, GW2_false, KS_normal, KS_ret, KS_exit, KB_normal, KB_ret, KB_exit, CP2_bool, RP_ret, putA_some, ev_t, ev_c, evs, evo, wantA, initA, resA, Tr.get_set, vl, chkOk, cond_true, cond_false, Nat.add_zero, Nat.mul_one, Nat.one_mul, Nat.zero_add, Nat.zero_mul, aggOf, pInt, binA, unA, intA, beq_true, beq_false, Bool.not_true, Bool.not_false, Bool.not_eq_true, and_self, and_true, true_and, ↓reduceIte, reduceIte, Nat.reduceEqDiff, Nat.succ_ne_self, Nat.reduceAdd, Nat.reduceMul, Nat.reduceSub, Nat.reduceBEq, Nat.reduceLT, Nat.reduceLeDiff, Int.cast_ofNat_Int, Int.reduceToNat, Int.reduceLT, Int.reduceLE, Int.reduceGE, Int.reduceGT, Int.reduceEq, Int.reduceNe, Int.reduceAdd, Int.reduceSub, Int.reduceNeg, decide_true, decide_false, Int.toNat_natCast, reduceCtorEq, List.nil_append, List.cons_append, AV.boxy, AV.cells, List.length_cons, List.length_nil, Nat.beq_refl, AOp.cl, ↓OW_guard, ↓DW_guard, KDW_0, KDW_1, KDW_2, OWskip_eq, fillA, setAt, DChk, DAt, stepA, ble_dec, beq_dec, Bool.and_self, Bool.and_true, Bool.true_and, Bool.and_false, Bool.false_and, List.take_succ_cons, List.take_zero, List.drop_succ_cons, List.drop_zero, List.take_nil, List.drop_nil, List.append_nil, eqAV, eqAVL, BEq.rfl, eqA, eqD, sameS, Option.map, Option.isNone, wrap64, gt_iff_lt, ge_iff_le, Int.lt_irrefl, Int.le_refl]
theorem nilEv {H : AHeap} : SlE EvE 4 H [] [.slice none 1 0 true] := ⟨none, 1, true, rfl, .inl rfl, Nat.zero_le _, fun h => absurd rfl h⟩
theorem Rd.slEv {H : AHeap} {x : Nat} {l : List Ev4} {n : Nat} {cl : Bool} (h : Rd H x 0 (l.flatMap evC)) (hn : n = l.length) (hm : l.length ≤ maxLen) : SlE EvE 4 H l [.slice (some (x, 0)) 4 n cl] := by
  have len : ∀ m : List Ev4, (m.flatMap evC).length = m.length * 4 := fun m => by
    induction m with
    | nil => rfl
    | cons a m ih => rw [List.flatMap_cons, List.length_append, ih]; simp [evC]; omega
  refine SlE.new MonoE.enc h hn (len l) hm fun j hj => ⟨?_, trivial⟩
  have e : l = l.take j ++ l[j] :: l.drop (j + 1) := by rw [← List.drop_eq_getElem_cons hj, List.take_append_drop]
  have hl : ((l.take j).flatMap evC).length = j * 4 := by rw [len, List.length_take, Nat.min_eq_left (by omega)]
  generalize hx : l[j] = x at e ⊢
  rw [e, List.flatMap_append, ← hl, List.drop_left, List.flatMap_cons]
  rfl
theorem c_known25 {H : AHeap} : CW MN 10 [] H fun u H' => u = .bool true ∧ Sm H H' := by
  refine CW_of (fn := af10) rfl ?_
  unfold af10
  let s : Ev4 := ⟨1, 0, 0, 0⟩
  let hh : Ev4 := ⟨4, 0, 0, 0⟩
  let lo : Ev4 := ⟨5, 0, 0, 0⟩
  have r1 := Rd.newRow H ([s].flatMap evC)
  have s1 := Chg.newRow H ([s].flatMap evC)
  have n1 : (H.newRow ([s].flatMap evC)).next = H.next + 1 := rfl
  have f1 : [s].flatMap evC = [.int .i64 1, .int .i64 0, .int .i64 0, .int .i64 0] := rfl
  rw [f1] at r1 s1 n1
  generalize eH1 : H.newRow [.int .i64 1, .int .i64 0, .int .i64 0, .int .i64 0] = H1 at *
  have r2 := Rd.newRow H1 ([s, hh].flatMap evC)
  have s2 := Chg.newRow H1 ([s, hh].flatMap evC)
  have n2 : (H1.newRow ([s, hh].flatMap evC)).next = H1.next + 1 := rfl
  have f2 : [s, hh].flatMap evC = [.int .i64 1, .int .i64 0, .int .i64 0, .int .i64 0, .int .i64 4, .int .i64 0, .int .i64 0, .int .i64 0] := rfl
  rw [f2] at r2 s2 n2
  generalize eH2 : H1.newRow [.int .i64 1, .int .i64 0, .int .i64 0, .int .i64 0, .int .i64 4, .int .i64 0, .int .i64 0, .int .i64 0] = H2 at *
  have r3 := Rd.newRow H2 ([s, lo].flatMap evC)
  have s3 := Chg.newRow H2 ([s, lo].flatMap evC)
  have n3 : (H2.newRow ([s, lo].flatMap evC)).next = H2.next + 1 := rfl
  have f3 : [s, lo].flatMap evC = [.int .i64 1, .int .i64 0, .int .i64 0, .int .i64 0, .int .i64 5, .int .i64 0, .int .i64 0, .int .i64 0] := rfl
  rw [f3] at r3 s3 n3
  generalize eH3 : H2.newRow [.int .i64 1, .int .i64 0, .int .i64 0, .int .i64 0, .int .i64 5, .int .i64 0, .int .i64 0, .int .i64 0] = H3 at *
  have q1 : SlE EvE 4 H3 [s] [.slice (some (H.next, 0)) 4 1 true] := Rd.slEv (by rw [f1]; exact (r1.keep s2.1 (s2.gt (by omega))).keep s3.1 (s3.gt (by omega))) rfl (by decide)
  have q2 : SlE EvE 4 H3 [s, hh] [.slice (some (H1.next, 0)) 4 2 true] := Rd.slEv (by rw [f2]; exact r2.keep s3.1 (s3.gt (by omega))) rfl (by decide)
  have q3 : SlE EvE 4 H3 [s, lo] [.slice (some (H2.next, 0)) 4 2 true] := Rd.slEv (by rw [f3]; exact r3) rfl (by decide)
  have sm : Sm H H3 := s1.trans (s2.trans s3)
  have a1 : agB [] [] = true := by decide
  have a2 : prefB [] [s, hh] = true := by decide
  have a3 : prefB [s] [s, hh] = true := by decide
  have a4 : prefB [s, hh] [s] = false := by decide
  have a5 : agB [s, lo] [s, hh] = true := by decide
  have a6 : agB [s] [s, hh] = false := by decide
  have a7 : agB [s, hh] [s, hh] = true := by decide
  simp -implicitDefEqProofs only [eH1, eH2, eH3, ↓WP_seq, ↓WP_skip, ↓WP_region, ↓WP_dregion, ↓WP_cond, ↓WP_block, ↓WP_exit, ↓WP_ret, ↓OW_nil, ↓OW_cons, ↓DW_nil, ↓DW_cons, ↓XW_call, XW, exA, KO_eq, OptK_some, EvK_some, GW2_true, GW2_false, KS_normal, KS_ret, KS_exit, KB_normal, KB_ret, KB_exit, CP2_bool, RP_ret, putA_some, ev_t, ev_c, evs, evo, wantA, initA, resA, Tr.get_set, vl, chkOk, cond_true, cond_false, Nat.add_zero, Nat.mul_one, Nat.one_mul, Nat.zero_add, Nat.zero_mul, aggOf, pInt, binA, unA, intA, beq_true, beq_false, Bool.not_true, Bool.not_false, Bool.not_eq_true, and_self, and_true, true_and, ↓reduceIte, reduceIte, Nat.reduceEqDiff, Nat.succ_ne_self, Nat.reduceAdd, Nat.reduceMul, Nat.reduceSub, Nat.reduceBEq, Nat.reduceLT, Nat.reduceLeDiff, Int.cast_ofNat_Int, Int.reduceToNat, Int.reduceLT, Int.reduceLE, Int.reduceGE, Int.reduceGT, Int.reduceEq, Int.reduceNe, Int.reduceAdd, Int.reduceSub, Int.reduceNeg, decide_true, decide_false, Int.toNat_natCast, reduceCtorEq, List.nil_append, List.cons_append, AV.boxy, AV.cells, List.length_cons, List.length_nil, Nat.beq_refl, AOp.cl, ↓OW_guard, ↓DW_guard, KDW_0, KDW_1, KDW_2, OWskip_eq, fillA, setAt, DChk, DAt, stepA, ble_dec, beq_dec, Bool.and_self, Bool.and_true, Bool.true_and, Bool.and_false, Bool.false_and, List.take_succ_cons, List.take_zero, List.drop_succ_cons, List.drop_zero, List.take_nil, List.drop_nil, List.append_nil, eqAV, eqAVL, BEq.rfl, sameS, Option.map, Option.isNone, wrap64, gt_iff_lt, ge_iff_le, Int.lt_irrefl, Int.le_refl]
  refine CW.mono (c_Agrees nilEv nilEv) ?_
  rintro u H' ⟨rfl, rfl⟩
  simp -implicitDefEqProofs only [a1, ↓WP_seq, ↓WP_skip, ↓WP_region, ↓WP_dregion, ↓WP_cond, ↓WP_block, ↓WP_exit, ↓WP_ret, ↓OW_nil, ↓OW_cons, ↓DW_nil, ↓DW_cons, ↓XW_call, XW, exA, KO_eq, OptK_some, EvK_some, GW2_true, GW2_false, KS_normal, KS_ret, KS_exit, KB_normal, KB_ret, KB_exit, CP2_bool, RP_ret, putA_some, ev_t, ev_c, evs, evo, wantA, initA, resA, Tr.get_set, vl, chkOk, cond_true, cond_false, Nat.add_zero, Nat.mul_one, Nat.one_mul, Nat.zero_add, Nat.zero_mul, aggOf, pInt, binA, unA, intA, beq_true, beq_false, Bool.not_true, Bool.not_false, Bool.not_eq_true, and_self, and_true, true_and, ↓reduceIte, reduceIte, Nat.reduceEqDiff, Nat.succ_ne_self, Nat.reduceAdd, Nat.reduceMul, Nat.reduceSub, Nat.reduceBEq, Nat.reduceLT, Nat.reduceLeDiff, Int.cast_ofNat_Int, Int.reduceToNat, Int.reduceLT, Int.reduceLE, Int.reduceGE, Int.reduceGT, Int.reduceEq, Int.reduceNe, Int.reduceAdd, Int.reduceSub, Int.reduceNeg, decide_true, decide_false, Int.toNat_natCast, reduceCtorEq, List.nil_append, List.cons_append, AV.boxy, AV.cells, List.length_cons, List.length_nil, Nat.beq_refl, AOp.cl, ↓OW_guard, ↓DW_guard, KDW_0, KDW_1, KDW_2, OWskip_eq, fillA, setAt, DChk, DAt, stepA, ble_dec, beq_dec, Bool.and_self, Bool.and_true, Bool.true_and, Bool.and_false, Bool.false_and, List.take_succ_cons, List.take_zero, List.drop_succ_cons, List.drop_zero, List.take_nil, List.drop_nil, List.append_nil, eqAV, eqAVL, BEq.rfl, sameS, Option.map, Option.isNone, wrap64, gt_iff_lt, ge_iff_le, Int.lt_irrefl, Int.le_refl]
  refine CW.mono (c_Prefix nilEv q2) ?_
  rintro u H' ⟨rfl, rfl⟩
  simp -implicitDefEqProofs only [a2, ↓WP_seq, ↓WP_skip, ↓WP_region, ↓WP_dregion, ↓WP_cond, ↓WP_block, ↓WP_exit, ↓WP_ret, ↓OW_nil, ↓OW_cons, ↓DW_nil, ↓DW_cons, ↓XW_call, XW, exA, KO_eq, OptK_some, EvK_some, GW2_true, GW2_false, KS_normal, KS_ret, KS_exit, KB_normal, KB_ret, KB_exit, CP2_bool, RP_ret, putA_some, ev_t, ev_c, evs, evo, wantA, initA, resA, Tr.get_set, vl, chkOk, cond_true, cond_false, Nat.add_zero, Nat.mul_one, Nat.one_mul, Nat.zero_add, Nat.zero_mul, aggOf, pInt, binA, unA, intA, beq_true, beq_false, Bool.not_true, Bool.not_false, Bool.not_eq_true, and_self, and_true, true_and, ↓reduceIte, reduceIte, Nat.reduceEqDiff, Nat.succ_ne_self, Nat.reduceAdd, Nat.reduceMul, Nat.reduceSub, Nat.reduceBEq, Nat.reduceLT, Nat.reduceLeDiff, Int.cast_ofNat_Int, Int.reduceToNat, Int.reduceLT, Int.reduceLE, Int.reduceGE, Int.reduceGT, Int.reduceEq, Int.reduceNe, Int.reduceAdd, Int.reduceSub, Int.reduceNeg, decide_true, decide_false, Int.toNat_natCast, reduceCtorEq, List.nil_append, List.cons_append, AV.boxy, AV.cells, List.length_cons, List.length_nil, Nat.beq_refl, AOp.cl, ↓OW_guard, ↓DW_guard, KDW_0, KDW_1, KDW_2, OWskip_eq, fillA, setAt, DChk, DAt, stepA, ble_dec, beq_dec, Bool.and_self, Bool.and_true, Bool.true_and, Bool.and_false, Bool.false_and, List.take_succ_cons, List.take_zero, List.drop_succ_cons, List.drop_zero, List.take_nil, List.drop_nil, List.append_nil, eqAV, eqAVL, BEq.rfl, sameS, Option.map, Option.isNone, wrap64, gt_iff_lt, ge_iff_le, Int.lt_irrefl, Int.le_refl]
  refine CW.mono (c_Prefix q1 q2) ?_
  rintro u H' ⟨rfl, rfl⟩
  simp -implicitDefEqProofs only [a3, ↓WP_seq, ↓WP_skip, ↓WP_region, ↓WP_dregion, ↓WP_cond, ↓WP_block, ↓WP_exit, ↓WP_ret, ↓OW_nil, ↓OW_cons, ↓DW_nil, ↓DW_cons, ↓XW_call, XW, exA, KO_eq, OptK_some, EvK_some, GW2_true, GW2_false, KS_normal, KS_ret, KS_exit, KB_normal, KB_ret, KB_exit, CP2_bool, RP_ret, putA_some, ev_t, ev_c, evs, evo, wantA, initA, resA, Tr.get_set, vl, chkOk, cond_true, cond_false, Nat.add_zero, Nat.mul_one, Nat.one_mul, Nat.zero_add, Nat.zero_mul, aggOf, pInt, binA, unA, intA, beq_true, beq_false, Bool.not_true, Bool.not_false, Bool.not_eq_true, and_self, and_true, true_and, ↓reduceIte, reduceIte, Nat.reduceEqDiff, Nat.succ_ne_self, Nat.reduceAdd, Nat.reduceMul, Nat.reduceSub, Nat.reduceBEq, Nat.reduceLT, Nat.reduceLeDiff, Int.cast_ofNat_Int, Int.reduceToNat, Int.reduceLT, Int.reduceLE, Int.reduceGE, Int.reduceGT, Int.reduceEq, Int.reduceNe, Int.reduceAdd, Int.reduceSub, Int.reduceNeg, decide_true, decide_false, Int.toNat_natCast, reduceCtorEq, List.nil_append, List.cons_append, AV.boxy, AV.cells, List.length_cons, List.length_nil, Nat.beq_refl, AOp.cl, ↓OW_guard, ↓DW_guard, KDW_0, KDW_1, KDW_2, OWskip_eq, fillA, setAt, DChk, DAt, stepA, ble_dec, beq_dec, Bool.and_self, Bool.and_true, Bool.true_and, Bool.and_false, Bool.false_and, List.take_succ_cons, List.take_zero, List.drop_succ_cons, List.drop_zero, List.take_nil, List.drop_nil, List.append_nil, eqAV, eqAVL, BEq.rfl, sameS, Option.map, Option.isNone, wrap64, gt_iff_lt, ge_iff_le, Int.lt_irrefl, Int.le_refl]
  refine CW.mono (c_Prefix q2 q1) ?_
  rintro u H' ⟨rfl, rfl⟩
  simp -implicitDefEqProofs only [a4, ↓WP_seq, ↓WP_skip, ↓WP_region, ↓WP_dregion, ↓WP_cond, ↓WP_block, ↓WP_exit, ↓WP_ret, ↓OW_nil, ↓OW_cons, ↓DW_nil, ↓DW_cons, ↓XW_call, XW, exA, KO_eq, OptK_some, EvK_some, GW2_true, GW2_false, KS_normal, KS_ret, KS_exit, KB_normal, KB_ret, KB_exit, CP2_bool, RP_ret, putA_some, ev_t, ev_c, evs, evo, wantA, initA, resA, Tr.get_set, vl, chkOk, cond_true, cond_false, Nat.add_zero, Nat.mul_one, Nat.one_mul, Nat.zero_add, Nat.zero_mul, aggOf, pInt, binA, unA, intA, beq_true, beq_false, Bool.not_true, Bool.not_false, Bool.not_eq_true, and_self, and_true, true_and, ↓reduceIte, reduceIte, Nat.reduceEqDiff, Nat.succ_ne_self, Nat.reduceAdd, Nat.reduceMul, Nat.reduceSub, Nat.reduceBEq, Nat.reduceLT, Nat.reduceLeDiff, Int.cast_ofNat_Int, Int.reduceToNat, Int.reduceLT, Int.reduceLE, Int.reduceGE, Int.reduceGT, Int.reduceEq, Int.reduceNe, Int.reduceAdd, Int.reduceSub, Int.reduceNeg, decide_true, decide_false, Int.toNat_natCast, reduceCtorEq, List.nil_append, List.cons_append, AV.boxy, AV.cells, List.length_cons, List.length_nil, Nat.beq_refl, AOp.cl, ↓OW_guard, ↓DW_guard, KDW_0, KDW_1, KDW_2, OWskip_eq, fillA, setAt, DChk, DAt, stepA, ble_dec, beq_dec, Bool.and_self, Bool.and_true, Bool.true_and, Bool.and_false, Bool.false_and, List.take_succ_cons, List.take_zero, List.drop_succ_cons, List.drop_zero, List.take_nil, List.drop_nil, List.append_nil, eqAV, eqAVL, BEq.rfl, sameS, Option.map, Option.isNone, wrap64, gt_iff_lt, ge_iff_le, Int.lt_irrefl, Int.le_refl]
  refine CW.mono (c_Agrees q3 q2) ?_
  rintro u H' ⟨rfl, rfl⟩
  simp -implicitDefEqProofs only [a5, ↓WP_seq, ↓WP_skip, ↓WP_region, ↓WP_dregion, ↓WP_cond, ↓WP_block, ↓WP_exit, ↓WP_ret, ↓OW_nil, ↓OW_cons, ↓DW_nil, ↓DW_cons, ↓XW_call, XW, exA, KO_eq, OptK_some, EvK_some, GW2_true, GW2_false, KS_normal, KS_ret, KS_exit, KB_normal, KB_ret, KB_exit, CP2_bool, RP_ret, putA_some, ev_t, ev_c, evs, evo, wantA, initA, resA, Tr.get_set, vl, chkOk, cond_true, cond_false, Nat.add_zero, Nat.mul_one, Nat.one_mul, Nat.zero_add, Nat.zero_mul, aggOf, pInt, binA, unA, intA, beq_true, beq_false, Bool.not_true, Bool.not_false, Bool.not_eq_true, and_self, and_true, true_and, ↓reduceIte, reduceIte, Nat.reduceEqDiff, Nat.succ_ne_self, Nat.reduceAdd, Nat.reduceMul, Nat.reduceSub, Nat.reduceBEq, Nat.reduceLT, Nat.reduceLeDiff, Int.cast_ofNat_Int, Int.reduceToNat, Int.reduceLT, Int.reduceLE, Int.reduceGE, Int.reduceGT, Int.reduceEq, Int.reduceNe, Int.reduceAdd, Int.reduceSub, Int.reduceNeg, decide_true, decide_false, Int.toNat_natCast, reduceCtorEq, List.nil_append, List.cons_append, AV.boxy, AV.cells, List.length_cons, List.length_nil, Nat.beq_refl, AOp.cl, ↓OW_guard, ↓DW_guard, KDW_0, KDW_1, KDW_2, OWskip_eq, fillA, setAt, DChk, DAt, stepA, ble_dec, beq_dec, Bool.and_self, Bool.and_true, Bool.true_and, Bool.and_false, Bool.false_and, List.take_succ_cons, List.take_zero, List.drop_succ_cons, List.drop_zero, List.take_nil, List.drop_nil, List.append_nil, eqAV, eqAVL, BEq.rfl, sameS, Option.map, Option.isNone, wrap64, gt_iff_lt, ge_iff_le, Int.lt_irrefl, Int.le_refl]
  refine CW.mono (c_Agrees q1 q2) ?_
  rintro u H' ⟨rfl, rfl⟩
  simp -implicitDefEqProofs only [a6, ↓WP_seq, ↓WP_skip, ↓WP_region, ↓WP_dregion, ↓WP_cond, ↓WP_block, ↓WP_exit, ↓WP_ret, ↓OW_nil, ↓OW_cons, ↓DW_nil, ↓DW_cons, ↓XW_call, XW, exA, KO_eq, OptK_some, EvK_some, GW2_true, GW2_false, KS_normal, KS_ret, KS_exit, KB_normal, KB_ret, KB_exit, CP2_bool, RP_ret, putA_some, ev_t, ev_c, evs, evo, wantA, initA, resA, Tr.get_set, vl, chkOk, cond_true, cond_false, Nat.add_zero, Nat.mul_one, Nat.one_mul, Nat.zero_add, Nat.zero_mul, aggOf, pInt, binA, unA, intA, beq_true, beq_false, Bool.not_true, Bool.not_false, Bool.not_eq_true, and_self, and_true, true_and, ↓reduceIte, reduceIte, Nat.reduceEqDiff, Nat.succ_ne_self, Nat.reduceAdd, Nat.reduceMul, Nat.reduceSub, Nat.reduceBEq, Nat.reduceLT, Nat.reduceLeDiff, Int.cast_ofNat_Int, Int.reduceToNat, Int.reduceLT, Int.reduceLE, Int.reduceGE, Int.reduceGT, Int.reduceEq, Int.reduceNe, Int.reduceAdd, Int.reduceSub, Int.reduceNeg, decide_true, decide_false, Int.toNat_natCast, reduceCtorEq, List.nil_append, List.cons_append, AV.boxy, AV.cells, List.length_cons, List.length_nil, Nat.beq_refl, AOp.cl, ↓OW_guard, ↓DW_guard, KDW_0, KDW_1, KDW_2, OWskip_eq, fillA, setAt, DChk, DAt, stepA, ble_dec, beq_dec, Bool.and_self, Bool.and_true, Bool.true_and, Bool.and_false, Bool.false_and, List.take_succ_cons, List.take_zero, List.drop_succ_cons, List.drop_zero, List.take_nil, List.drop_nil, List.append_nil, eqAV, eqAVL, BEq.rfl, sameS, Option.map, Option.isNone, wrap64, gt_iff_lt, ge_iff_le, Int.lt_irrefl, Int.le_refl]
  refine CW.mono c_HeapN ?_
  rintro u H' ⟨rfl, rfl⟩
  simp -implicitDefEqProofs only [↓WP_seq, ↓WP_skip, ↓WP_region, ↓WP_dregion, ↓WP_cond, ↓WP_block, ↓WP_exit, ↓WP_ret, ↓OW_nil, ↓OW_cons, ↓DW_nil, ↓DW_cons, ↓XW_call, XW, exA, KO_eq, OptK_some, EvK_some, GW2_true, GW2_false, KS_normal, KS_ret, KS_exit, KB_normal, KB_ret, KB_exit, CP2_bool, RP_ret, putA_some, ev_t, ev_c, evs, evo, wantA, initA, resA, Tr.get_set, vl, chkOk, cond_true, cond_false, Nat.add_zero, Nat.mul_one, Nat.one_mul, Nat.zero_add, Nat.zero_mul, aggOf, pInt, binA, unA, intA, beq_true, beq_false, Bool.not_true, Bool.not_false, Bool.not_eq_true, and_self, and_true, true_and, ↓reduceIte, reduceIte, Nat.reduceEqDiff, Nat.succ_ne_self, Nat.reduceAdd, Nat.reduceMul, Nat.reduceSub, Nat.reduceBEq, Nat.reduceLT, Nat.reduceLeDiff, Int.cast_ofNat_Int, Int.reduceToNat, Int.reduceLT, Int.reduceLE, Int.reduceGE, Int.reduceGT, Int.reduceEq, Int.reduceNe, Int.reduceAdd, Int.reduceSub, Int.reduceNeg, decide_true, decide_false, Int.toNat_natCast, reduceCtorEq, List.nil_append, List.cons_append, AV.boxy, AV.cells, List.length_cons, List.length_nil, Nat.beq_refl, AOp.cl, ↓OW_guard, ↓DW_guard, KDW_0, KDW_1, KDW_2, OWskip_eq, fillA, setAt, DChk, DAt, stepA, ble_dec, beq_dec, Bool.and_self, Bool.and_true, Bool.true_and, Bool.and_false, Bool.false_and, List.take_succ_cons, List.take_zero, List.drop_succ_cons, List.drop_zero, List.take_nil, List.drop_nil, List.append_nil, eqAV, eqAVL, BEq.rfl, sameS, Option.map, Option.isNone, wrap64, gt_iff_lt, ge_iff_le, Int.lt_irrefl, Int.le_refl]
  refine CW.mono c_SafeN ?_
  rintro u H4 ⟨rfl, s4⟩
  simp -implicitDefEqProofs only [↓WP_seq, ↓WP_skip, ↓WP_region, ↓WP_dregion, ↓WP_cond, ↓WP_block, ↓WP_exit, ↓WP_ret, ↓OW_nil, ↓OW_cons, ↓DW_nil, ↓DW_cons, ↓XW_call, XW, exA, KO_eq, OptK_some, EvK_some, GW2_true, GW2_false, KS_normal, KS_ret, KS_exit, KB_normal, KB_ret, KB_exit, CP2_bool, RP_ret, putA_some, ev_t, ev_c, evs, evo, wantA, initA, resA, Tr.get_set, vl, chkOk, cond_true, cond_false, Nat.add_zero, Nat.mul_one, Nat.one_mul, Nat.zero_add, Nat.zero_mul, aggOf, pInt, binA, unA, intA, beq_true, beq_false, Bool.not_true, Bool.not_false, Bool.not_eq_true, and_self, and_true, true_and, ↓reduceIte, reduceIte, Nat.reduceEqDiff, Nat.succ_ne_self, Nat.reduceAdd, Nat.reduceMul, Nat.reduceSub, Nat.reduceBEq, Nat.reduceLT, Nat.reduceLeDiff, Int.cast_ofNat_Int, Int.reduceToNat, Int.reduceLT, Int.reduceLE, Int.reduceGE, Int.reduceGT, Int.reduceEq, Int.reduceNe, Int.reduceAdd, Int.reduceSub, Int.reduceNeg, decide_true, decide_false, Int.toNat_natCast, reduceCtorEq, List.nil_append, List.cons_append, AV.boxy, AV.cells, List.length_cons, List.length_nil, Nat.beq_refl, AOp.cl, ↓OW_guard, ↓DW_guard, KDW_0, KDW_1, KDW_2, OWskip_eq, fillA, setAt, DChk, DAt, stepA, ble_dec, beq_dec, Bool.and_self, Bool.and_true, Bool.true_and, Bool.and_false, Bool.false_and, List.take_succ_cons, List.take_zero, List.drop_succ_cons, List.drop_zero, List.take_nil, List.drop_nil, List.append_nil, eqAV, eqAVL, BEq.rfl, sameS, Option.map, Option.isNone, wrap64, gt_iff_lt, ge_iff_le, Int.lt_irrefl, Int.le_refl]
  refine CW.mono c_LiveN ?_
  rintro u H' ⟨rfl, rfl⟩
  simp -implicitDefEqProofs only [↓WP_seq, ↓WP_skip, ↓WP_region, ↓WP_dregion, ↓WP_cond, ↓WP_block, ↓WP_exit, ↓WP_ret, ↓OW_nil, ↓OW_cons, ↓DW_nil, ↓DW_cons, ↓XW_call, XW, exA, KO_eq, OptK_some, EvK_some, GW2_true, GW2_false, KS_normal, KS_ret, KS_exit, KB_normal, KB_ret, KB_exit, CP2_bool, RP_ret, putA_some, ev_t, ev_c, evs, evo, wantA, initA, resA, Tr.get_set, vl, chkOk, cond_true, cond_false, Nat.add_zero, Nat.mul_one, Nat.one_mul, Nat.zero_add, Nat.zero_mul, aggOf, pInt, binA, unA, intA, beq_true, beq_false, Bool.not_true, Bool.not_false, Bool.not_eq_true, and_self, and_true, true_and, ↓reduceIte, reduceIte, Nat.reduceEqDiff, Nat.succ_ne_self, Nat.reduceAdd, Nat.reduceMul, Nat.reduceSub, Nat.reduceBEq, Nat.reduceLT, Nat.reduceLeDiff, Int.cast_ofNat_Int, Int.reduceToNat, Int.reduceLT, Int.reduceLE, Int.reduceGE, Int.reduceGT, Int.reduceEq, Int.reduceNe, Int.reduceAdd, Int.reduceSub, Int.reduceNeg, decide_true, decide_false, Int.toNat_natCast, reduceCtorEq, List.nil_append, List.cons_append, AV.boxy, AV.cells, List.length_cons, List.length_nil, Nat.beq_refl, AOp.cl, ↓OW_guard, ↓DW_guard, KDW_0, KDW_1, KDW_2, OWskip_eq, fillA, setAt, DChk, DAt, stepA, ble_dec, beq_dec, Bool.and_self, Bool.and_true, Bool.true_and, Bool.and_false, Bool.false_and, List.take_succ_cons, List.take_zero, List.drop_succ_cons, List.drop_zero, List.take_nil, List.drop_nil, List.append_nil, eqAV, eqAVL, BEq.rfl, sameS, Option.map, Option.isNone, wrap64, gt_iff_lt, ge_iff_le, Int.lt_irrefl, Int.le_refl]
  refine CW.mono (c_Agrees (MonoE.enc.sl _ _ _ _ q2 s4) (MonoE.enc.sl _ _ _ _ q2 s4)) ?_
  rintro u H' ⟨rfl, rfl⟩
  simp -implicitDefEqProofs only [a7, ↓WP_seq, ↓WP_skip, ↓WP_region, ↓WP_dregion, ↓WP_cond, ↓WP_block, ↓WP_exit, ↓WP_ret, ↓OW_nil, ↓OW_cons, ↓DW_nil, ↓DW_cons, ↓XW_call, XW, exA, KO_eq, OptK_some, EvK_some, GW2_true, GW2_false, KS_normal, KS_ret, KS_exit, KB_normal, KB_ret, KB_exit, CP2_bool, RP_ret, putA_some, ev_t, ev_c, evs, evo, wantA, initA, resA, Tr.get_set, vl, chkOk, cond_true, cond_false, Nat.add_zero, Nat.mul_one, Nat.one_mul, Nat.zero_add, Nat.zero_mul, aggOf, pInt, binA, unA, intA, beq_true, beq_false, Bool.not_true, Bool.not_false, Bool.not_eq_true, and_self, and_true, true_and, ↓reduceIte, reduceIte, Nat.reduceEqDiff, Nat.succ_ne_self, Nat.reduceAdd, Nat.reduceMul, Nat.reduceSub, Nat.reduceBEq, Nat.reduceLT, Nat.reduceLeDiff, Int.cast_ofNat_Int, Int.reduceToNat, Int.reduceLT, Int.reduceLE, Int.reduceGE, Int.reduceGT, Int.reduceEq, Int.reduceNe, Int.reduceAdd, Int.reduceSub, Int.reduceNeg, decide_true, decide_false, Int.toNat_natCast, reduceCtorEq, List.nil_append, List.cons_append, AV.boxy, AV.cells, List.length_cons, List.length_nil, Nat.beq_refl, AOp.cl, ↓OW_guard, ↓DW_guard, KDW_0, KDW_1, KDW_2, OWskip_eq, fillA, setAt, DChk, DAt, stepA, ble_dec, beq_dec, Bool.and_self, Bool.and_true, Bool.true_and, Bool.and_false, Bool.false_and, List.take_succ_cons, List.take_zero, List.drop_succ_cons, List.drop_zero, List.take_nil, List.drop_nil, List.append_nil, eqAV, eqAVL, BEq.rfl, sameS, Option.map, Option.isNone, wrap64, gt_iff_lt, ge_iff_le, Int.lt_irrefl, Int.le_refl]
  exact sm.trans s4
set_option maxHeartbeats 4000000
theorem ev_row : ∀ {xs : List Ev4} {cs : List AV}, cs.length = xs.length * 4 → (∀ j (hj : j < xs.length), (cs.drop (j * 4)).take 4 = evC xs[j]) → cs = xs.flatMap evC
  | [], cs, h, _ => List.eq_nil_of_length_eq_zero (by simpa using h)
  | x :: xs, cs, h, hj => by
    have h0 := hj 0 (by simp)
    have hr := ev_row (xs := xs) (cs := cs.drop 4) (by rw [List.length_drop, h]; simp; omega) fun j hj' => by
      have := hj (j + 1) (by simpa using hj')
      rw [List.drop_drop, show 4 + j * 4 = (j + 1) * 4 by omega]
      exact this
    rw [List.flatMap_cons, ← hr]
    rw [Nat.zero_mul, List.drop_zero] at h0
    show cs = evC x ++ cs.drop 4
    rw [show evC x = cs.take 4 from h0.symm, List.take_append_drop]
theorem WP_assocV {M : Mach} {a b c : ACode} {Q : Post} {fr : AFr} {H : AHeap} : WP M (.seq a (.seq b c)) Q fr H = WP M (.seq (.seq a b) c) Q fr H := by
  have e : KS (WP M (.seq b c) Q) Q = KS (WP M b (KS (WP M c Q) Q)) (KS (WP M c Q) Q) := by
    funext ex fr H
    cases ex <;> rfl
  show WP M a (KS (WP M (.seq b c) Q) Q) fr H = WP M a _ fr H
  rw [e]
/-- A copy of a row of events, and one more. -/
theorem app_low {H : AHeap} {xs : List Ev4} {a : Option (Nat × Nat)} {s0 n : Nat} {cl : Bool} (h : SlE EvE 4 H xs [.slice a s0 n cl]) (hl : xs.length ≤ 20) (e : Ev4) :
    ∃ v2 H2, appendF (H.newRow []) 4 32 false (.slice (some (H.next, 0)) 4 0 true) (.slice a s0 n cl) = some (v2, H2) ∧ Sm H H2 ∧ ∃ v3 H3, appendF (H2.newRow (evC e)) 4 32 false v2 (.slice (some (H2.next, 0)) 4 1 true) = some (v3, H3) ∧ Sm H H3 ∧ SlE EvE 4 H3 (xs ++ [e]) [v3] := by
  have s1 := Chg.newRow H []
  have h1 := MonoE.enc.sl _ _ _ _ h s1
  obtain ⟨cs, q1, q2, q3⟩ := h1.row MonoE.enc
  have hcs : cs = xs.flatMap evC := ev_row q2 fun j hj => (q3 j hj).1
  have hn1 : (H.newRow []).next = H.next + 1 := rfl
  have r0 := Rd.newRow H []
  have sl0 : Sl (H.newRow []) (fun y => y = H.next) 4 (.slice (some (H.next, 0)) 4 0 true) 0 [] := .inr ⟨H.next, 0, true, rfl, rfl, rfl, r0, fun h => (by cases h)⟩
  generalize H.newRow [] = H1 at *
  have fin : ∀ {v2 H2} {D : Nat → Prop}, Sm H H2 → Sl H2 D 4 v2 xs.length (xs.flatMap evC) → (∀ y, ub v2 = some y → H.next ≤ y) → ∃ v3 H3, appendF (H2.newRow (evC e)) 4 32 false v2 (.slice (some (H2.next, 0)) 4 1 true) = some (v3, H3) ∧ Sm H H3 ∧ SlE EvE 4 H3 (xs ++ [e]) [v3] := by
    intro v2 H2 D s2 sl hu
    obtain ⟨H3, e1, e2, e3, e4⟩ := sl.push1 (bytes := 32) (ys := evC e) rfl (by omega) (by omega)
    refine ⟨_, H3, e1, s2.weak e3 hu, ?_⟩
    rcases e4 with ⟨⟨_, h⟩, -⟩ | ⟨x, o, cl', h, -, -, hr, -⟩
    · cases h
    · cases h
      exact Rd.slEv (by rw [List.flatMap_append]; simpa using hr) (by simp) (by simp [maxLen]; omega)
  by_cases h0 : xs.length = 0
  · obtain rfl : xs = [] := List.eq_nil_of_length_eq_zero h0
    subst hcs
    have ap := sl0.append0 (bytes := 32) q1
    exact ⟨_, _, ap, s1, fin (D := fun y => y = H.next) s1 sl0 fun y hy => by cases hy⟩
  · obtain ⟨H2, e1, e2, e3, e4⟩ := sl0.append (bytes := 32) q1 q2 h0 (by omega) (by omega)
    have s2 : Sm H H2 := s1.trans e3
    simp only [Nat.zero_add, List.nil_append] at e1 e4
    rw [hcs] at e4
    exact ⟨_, H2, e1, s2, fin s2 e4 fun y hy => by have := Sl.ubD e4 hy; omega⟩
theorem eqA_bool (a b : Bool) : eqA (.sc .bool) (.bool a) (.bool b) = some (a == b) := by simp [eqA, eqD, sameS]
theorem c_CheckOrder {H : AHeap} {l : List Ev4} {v : AV} (h : SlE EvE 4 H l [v]) (n m : Int) : CW MN 3 [v, .int .i64 n, .int .i64 m] H fun u H' => u = .bool true ∧ Sm H H' := by
  refine CW_of (fn := af3) rfl ?_
  unfold af3
  obtain ⟨a, s0, cl, rfl, -⟩ := h.shape
  have hmax := h.max
  rw [WP_assocV]
  refine WP_cut (P := fun fr H1 => ∃ (L : List Ev4) (a : Option (Nat × Nat)) (s0 : Nat) (cl : Bool), fr.get 0 = some (.slice a s0 L.length cl) ∧ fr.get 1 = some (.int .i64 n) ∧ fr.get 2 = some (.int .i64 m) ∧ SlE EvE 4 H L [.slice a s0 L.length cl] ∧ L.length ≤ 20 ∧ H1 = H) ?_ ?_
  · by_cases hl : (20 : Int) < l.length
    · rcases slE_none h with ⟨rfl, rfl, -⟩ | ⟨x, o, rfl, rfl, -⟩
      · simp at hl
      · have e1 := slA_pre (x := x) (o := o) (s := 4) (n := l.length) (k := 20) (cl := cl) (by omega)
        have e2 : ((20 : Nat) : Int) = 20 := rfl
        rw [e2] at e1
        simp -implicitDefEqProofs only [hl, e1, ↓WP_seq, ↓WP_skip, ↓WP_region, ↓WP_dregion, ↓WP_cond, ↓WP_block, ↓WP_exit, ↓WP_ret, ↓OW_nil, ↓OW_cons, ↓DW_nil, ↓DW_cons, ↓XW_call, XW, exA, KO_eq, OptK_some, EvK_some, GW2_true, GW2_false, KS_normal, KS_ret, KS_exit, KB_normal, KB_ret, KB_exit, CP2_bool, RP_ret, putA_some, ev_t, ev_c, evs, evo, wantA, initA, resA, Tr.get_set, vl, chkOk, cond_true, cond_false, Nat.add_zero, Nat.mul_one, Nat.one_mul, Nat.zero_add, Nat.zero_mul, aggOf, pInt, binA, unA, intA, beq_true, beq_false, Bool.not_true, Bool.not_false, Bool.not_eq_true, and_self, and_true, true_and, ↓reduceIte, reduceIte, Nat.reduceEqDiff, Nat.succ_ne_self, Nat.reduceAdd, Nat.reduceMul, Nat.reduceSub, Nat.reduceBEq, Nat.reduceLT, Nat.reduceLeDiff, Int.cast_ofNat_Int, Int.reduceToNat, Int.reduceLT, Int.reduceLE, Int.reduceGE, Int.reduceGT, Int.reduceEq, Int.reduceNe, Int.reduceAdd, Int.reduceSub, Int.reduceNeg, decide_true, decide_false, Int.toNat_natCast, reduceCtorEq, List.nil_append, List.cons_append, AV.boxy, AV.cells, List.length_cons, List.length_nil, Nat.beq_refl, AOp.cl, ↓OW_guard, ↓DW_guard, KDW_0, KDW_1, KDW_2, OWskip_eq, fillA, setAt, DChk, DAt, stepA, ble_dec, beq_dec, Bool.and_self, Bool.and_true, Bool.true_and, Bool.and_false, Bool.false_and, List.take_succ_cons, List.take_zero, List.drop_succ_cons, List.drop_zero, List.take_nil, List.drop_nil, List.append_nil, eqAV, eqAVL, BEq.rfl, sameS, Option.map, Option.isNone, wrap64, gt_iff_lt, ge_iff_le, Int.lt_irrefl, Int.le_refl]
        have hl2 : (l.take 20).length = 20 := by rw [List.length_take]; omega
        exact ⟨l.take 20, _, _, _, by rw [hl2], by rw [hl2]; exact h.preE 20 (by omega), by omega⟩
    · simp -implicitDefEqProofs only [hl, Bool.false_eq_true, ↓WP_seq, ↓WP_skip, ↓WP_region, ↓WP_dregion, ↓WP_cond, ↓WP_block, ↓WP_exit, ↓WP_ret, ↓OW_nil, ↓OW_cons, ↓DW_nil, ↓DW_cons, ↓XW_call, XW, exA, KO_eq, OptK_some, EvK_some, GW2_true, GW2_false, KS_normal, KS_ret, KS_exit, KB_normal, KB_ret, KB_exit, CP2_bool, RP_ret, putA_some, ev_t, ev_c, evs, evo, wantA, initA, resA, Tr.get_set, vl, chkOk, cond_true, cond_false, Nat.add_zero, Nat.mul_one, Nat.one_mul, Nat.zero_add, Nat.zero_mul, aggOf, pInt, binA, unA, intA, beq_true, beq_false, Bool.not_true, Bool.not_false, Bool.not_eq_true, and_self, and_true, true_and, ↓reduceIte, reduceIte, Nat.reduceEqDiff, Nat.succ_ne_self, Nat.reduceAdd, Nat.reduceMul, Nat.reduceSub, Nat.reduceBEq, Nat.reduceLT, Nat.reduceLeDiff, Int.cast_ofNat_Int, Int.reduceToNat, Int.reduceLT, Int.reduceLE, Int.reduceGE, Int.reduceGT, Int.reduceEq, Int.reduceNe, Int.reduceAdd, Int.reduceSub, Int.reduceNeg, decide_true, decide_false, Int.toNat_natCast, reduceCtorEq, List.nil_append, List.cons_append, AV.boxy, AV.cells, List.length_cons, List.length_nil, Nat.beq_refl, AOp.cl, ↓OW_guard, ↓DW_guard, KDW_0, KDW_1, KDW_2, OWskip_eq, fillA, setAt, DChk, DAt, stepA, ble_dec, beq_dec, Bool.and_self, Bool.and_true, Bool.true_and, Bool.and_false, Bool.false_and, List.take_succ_cons, List.take_zero, List.drop_succ_cons, List.drop_zero, List.take_nil, List.drop_nil, List.append_nil, eqAV, eqAVL, BEq.rfl, sameS, Option.map, Option.isNone, wrap64, gt_iff_lt, ge_iff_le, Int.lt_irrefl, Int.le_refl]
      exact ⟨l, _, _, _, rfl, h, by omega⟩
  · rintro fr H1 ⟨L, a, s0, cl, g0, g1, g2, hL, hl, rfl⟩
    clear h
    simp -implicitDefEqProofs only [g0, g1, g2, ↓WP_seq, ↓WP_skip, ↓WP_region, ↓WP_dregion, ↓WP_cond, ↓WP_block, ↓WP_exit, ↓WP_ret, ↓OW_nil, ↓OW_cons, ↓DW_nil, ↓DW_cons, ↓XW_call, XW, exA, KO_eq, OptK_some, EvK_some, GW2_true, GW2_false, KS_normal, KS_ret, KS_exit, KB_normal, KB_ret, KB_exit, CP2_bool, RP_ret, putA_some, ev_t, ev_c, evs, evo, wantA, initA, resA, Tr.get_set, vl, chkOk, cond_true, cond_false, Nat.add_zero, Nat.mul_one, Nat.one_mul, Nat.zero_add, Nat.zero_mul, aggOf, pInt, binA, unA, intA, beq_true, beq_false, Bool.not_true, Bool.not_false, Bool.not_eq_true, and_self, and_true, true_and, ↓reduceIte, reduceIte, Nat.reduceEqDiff, Nat.succ_ne_self, Nat.reduceAdd, Nat.reduceMul, Nat.reduceSub, Nat.reduceBEq, Nat.reduceLT, Nat.reduceLeDiff, Int.cast_ofNat_Int, Int.reduceToNat, Int.reduceLT, Int.reduceLE, Int.reduceGE, Int.reduceGT, Int.reduceEq, Int.reduceNe, Int.reduceAdd, Int.reduceSub, Int.reduceNeg, decide_true, decide_false, Int.toNat_natCast, reduceCtorEq, List.nil_append, List.cons_append, AV.boxy, AV.cells, List.length_cons, List.length_nil, Nat.beq_refl, AOp.cl, ↓OW_guard, ↓DW_guard, KDW_0, KDW_1, KDW_2, OWskip_eq, fillA, setAt, DChk, DAt, stepA, ble_dec, beq_dec, Bool.and_self, Bool.and_true, Bool.true_and, Bool.and_false, Bool.false_and, List.take_succ_cons, List.take_zero, List.drop_succ_cons, List.drop_zero, List.take_nil, List.drop_nil, List.append_nil, eqAV, eqAVL, BEq.rfl, sameS, Option.map, Option.isNone, wrap64, gt_iff_lt, ge_iff_le, Int.lt_irrefl, Int.le_refl]
    refine CW.mono (c_withinN n 0 L.length H1 (by omega) (by omega) (by omega)) ?_
    rintro u H' ⟨⟨A, rfl, A0, A1⟩, rfl⟩
    simp -implicitDefEqProofs only [g0, g1, g2, ↓WP_seq, ↓WP_skip, ↓WP_region, ↓WP_dregion, ↓WP_cond, ↓WP_block, ↓WP_exit, ↓WP_ret, ↓OW_nil, ↓OW_cons, ↓DW_nil, ↓DW_cons, ↓XW_call, XW, exA, KO_eq, OptK_some, EvK_some, GW2_true, GW2_false, KS_normal, KS_ret, KS_exit, KB_normal, KB_ret, KB_exit, CP2_bool, RP_ret, putA_some, ev_t, ev_c, evs, evo, wantA, initA, resA, Tr.get_set, vl, chkOk, cond_true, cond_false, Nat.add_zero, Nat.mul_one, Nat.one_mul, Nat.zero_add, Nat.zero_mul, aggOf, pInt, binA, unA, intA, beq_true, beq_false, Bool.not_true, Bool.not_false, Bool.not_eq_true, and_self, and_true, true_and, ↓reduceIte, reduceIte, Nat.reduceEqDiff, Nat.succ_ne_self, Nat.reduceAdd, Nat.reduceMul, Nat.reduceSub, Nat.reduceBEq, Nat.reduceLT, Nat.reduceLeDiff, Int.cast_ofNat_Int, Int.reduceToNat, Int.reduceLT, Int.reduceLE, Int.reduceGE, Int.reduceGT, Int.reduceEq, Int.reduceNe, Int.reduceAdd, Int.reduceSub, Int.reduceNeg, decide_true, decide_false, Int.toNat_natCast, reduceCtorEq, List.nil_append, List.cons_append, AV.boxy, AV.cells, List.length_cons, List.length_nil, Nat.beq_refl, AOp.cl, ↓OW_guard, ↓DW_guard, KDW_0, KDW_1, KDW_2, OWskip_eq, fillA, setAt, DChk, DAt, stepA, ble_dec, beq_dec, Bool.and_self, Bool.and_true, Bool.true_and, Bool.and_false, Bool.false_and, List.take_succ_cons, List.take_zero, List.drop_succ_cons, List.drop_zero, List.take_nil, List.drop_nil, List.append_nil, eqAV, eqAVL, BEq.rfl, sameS, Option.map, Option.isNone, wrap64, gt_iff_lt, ge_iff_le, Int.lt_irrefl, Int.le_refl]
    refine CW.mono (c_withinN m 0 L.length H' (by omega) (by omega) (by omega)) ?_
    rintro u H' ⟨⟨B, rfl, B0, B1⟩, rfl⟩
    obtain ⟨A, rfl⟩ := Int.eq_ofNat_of_zero_le A0
    obtain ⟨B, rfl⟩ := Int.eq_ofNat_of_zero_le B0
    have A1' : A ≤ L.length := by omega
    have B1' : B ≤ L.length := by omega
    obtain ⟨mn, hmn, mnl, hmn2⟩ : ∃ mn : Nat, mnL false (.int .i64 (A : Int)) [.int .i64 (B : Int)] = some (.int .i64 (mn : Int)) ∧ mn ≤ L.length ∧ mn ≤ A ∧ mn ≤ B := by
      by_cases c : (B : Int) < A
      · exact ⟨B, by simp only [mnL, mnA, cond_true, cond_false, if_pos c], B1', by omega, by omega⟩
      · exact ⟨A, by simp only [mnL, mnA, cond_true, cond_false, if_neg c], A1', by omega, by omega⟩
    obtain ⟨mx, hmx, mxl, hmx2⟩ : ∃ mx : Nat, mnL true (.int .i64 (A : Int)) [.int .i64 (B : Int)] = some (.int .i64 (mx : Int)) ∧ mx ≤ L.length ∧ A ≤ mx ∧ B ≤ mx := by
      by_cases c : (B : Int) > A
      · exact ⟨B, by simp only [mnL, mnA, cond_true, cond_false, if_pos c], B1', by omega, by omega⟩
      · exact ⟨A, by simp only [mnL, mnA, cond_true, cond_false, if_neg c], A1', by omega, by omega⟩
    have low : prefB (L.take mn) (L.take mx) = true := prefB_self L (by omega) mxl
    have lowL : prefB (L.take mn) L = true := by
      have := prefB_self L (a := mn) (b := L.length) mnl (Nat.le_refl _)
      rwa [List.take_length] at this
    have aL : prefB (L.take A) L = true := by
      have := prefB_self L (a := A) (b := L.length) A1' (Nat.le_refl _)
      rwa [List.take_length] at this
    have q1 := agB_low (p := L.take mn) (ys := L.take mx) (e := ⟨5, 0, 0, 0⟩) rfl low
    have q2 := agB_low (p := L.take mn) (ys := L) (e := ⟨5, 0, 0, 0⟩) rfl lowL
    have q3 := agB_self L
    have q4 := prefB_iff L A1' B1'
    have hab : (decide ((A : Int) ≤ (B : Int))) = decide (A ≤ B) := by
      by_cases c : A ≤ B
      · rw [decide_eq_true c, decide_eq_true (by omega)]
      · rw [decide_eq_false c, decide_eq_false (by omega)]
    rcases slE_none hL with ⟨rfl, rfl, -⟩ | ⟨x, o, rfl, rfl, -⟩
    · have z : A = 0 ∧ B = 0 ∧ mn = 0 ∧ mx = 0 := by simp at A1' B1' mnl mxl; omega
      obtain ⟨rfl, rfl, rfl, rfl⟩ := z
      have e0 := slA_nil (s := 4) (cl := cl)
      have hmn' : mnL false (.int .i64 0) [.int .i64 0] = some (.int .i64 0) := hmn
      have hmx' : mnL true (.int .i64 0) [.int .i64 0] = some (.int .i64 0) := hmx
      have nl : ∀ {G : AHeap} {cl' : Bool}, SlE EvE 4 G [] [.slice none 4 0 cl'] := fun {G cl'} => ⟨none, 4, cl', rfl, .inl rfl, Nat.zero_le _, fun h => absurd rfl h⟩
      obtain ⟨v2, H2, p1, p2, v3, H3, p3, p4, p5⟩ := app_low (nl (G := H') (cl' := true)) (by simp) ⟨5, 0, 0, 0⟩
      have nl0 : ∀ {G : AHeap}, SlE EvE 4 G [] [.slice none s0 0 cl] := fun {G} => ⟨none, s0, cl, rfl, .inl rfl, Nat.zero_le _, fun h => absurd rfl h⟩
      simp only [evC] at p3
      simp only [List.take_nil, List.nil_append] at p5 q1 low q4 q2 lowL aL
      simp -implicitDefEqProofs only [g0, g1, g2, List.length_nil, Int.natCast_zero, e0, hmn', hmx', p1, p3, beq_dec, ↓WP_seq, ↓WP_skip, ↓WP_region, ↓WP_dregion, ↓WP_cond, ↓WP_block, ↓WP_exit, ↓WP_ret, ↓OW_nil, ↓OW_cons, ↓DW_nil, ↓DW_cons, ↓XW_call, XW, exA, KO_eq, OptK_some, EvK_some, GW2_true, GW2_false, KS_normal, KS_ret, KS_exit, KB_normal, KB_ret, KB_exit, CP2_bool, RP_ret, putA_some, ev_t, ev_c, evs, evo, wantA, initA, resA, Tr.get_set, vl, chkOk, cond_true, cond_false, Nat.add_zero, Nat.mul_one, Nat.one_mul, Nat.zero_add, Nat.zero_mul, aggOf, pInt, binA, unA, intA, beq_true, beq_false, Bool.not_true, Bool.not_false, Bool.not_eq_true, and_self, and_true, true_and, ↓reduceIte, reduceIte, Nat.reduceEqDiff, Nat.succ_ne_self, Nat.reduceAdd, Nat.reduceMul, Nat.reduceSub, Nat.reduceBEq, Nat.reduceLT, Nat.reduceLeDiff, Int.cast_ofNat_Int, Int.reduceToNat, Int.reduceLT, Int.reduceLE, Int.reduceGE, Int.reduceGT, Int.reduceEq, Int.reduceNe, Int.reduceAdd, Int.reduceSub, Int.reduceNeg, decide_true, decide_false, Int.toNat_natCast, reduceCtorEq, List.nil_append, List.cons_append, AV.boxy, AV.cells, List.length_cons, List.length_nil, Nat.beq_refl, AOp.cl, ↓OW_guard, ↓DW_guard, KDW_0, KDW_1, KDW_2, OWskip_eq, fillA, setAt, DChk, DAt, stepA, ble_dec, beq_dec, Bool.and_self, Bool.and_true, Bool.true_and, Bool.and_false, Bool.false_and, List.take_succ_cons, List.take_zero, List.drop_succ_cons, List.drop_zero, List.take_nil, List.drop_nil, List.append_nil, eqAV, eqAVL, BEq.rfl, sameS, Option.map, Option.isNone, wrap64, gt_iff_lt, ge_iff_le, Int.lt_irrefl, Int.le_refl]
      refine CW.mono (c_Prefix nl nl) ?_
      rintro u H' ⟨rfl, rfl⟩
      simp -implicitDefEqProofs only [g0, g1, g2, low, e0, hmn', hmx', List.length_nil, Int.natCast_zero, ↓WP_seq, ↓WP_skip, ↓WP_region, ↓WP_dregion, ↓WP_cond, ↓WP_block, ↓WP_exit, ↓WP_ret, ↓OW_nil, ↓OW_cons, ↓DW_nil, ↓DW_cons, ↓XW_call, XW, exA, KO_eq, OptK_some, EvK_some, GW2_true, GW2_false, KS_normal, KS_ret, KS_exit, KB_normal, KB_ret, KB_exit, CP2_bool, RP_ret, putA_some, ev_t, ev_c, evs, evo, wantA, initA, resA, Tr.get_set, vl, chkOk, cond_true, cond_false, Nat.add_zero, Nat.mul_one, Nat.one_mul, Nat.zero_add, Nat.zero_mul, aggOf, pInt, binA, unA, intA, beq_true, beq_false, Bool.not_true, Bool.not_false, Bool.not_eq_true, and_self, and_true, true_and, ↓reduceIte, reduceIte, Nat.reduceEqDiff, Nat.succ_ne_self, Nat.reduceAdd, Nat.reduceMul, Nat.reduceSub, Nat.reduceBEq, Nat.reduceLT, Nat.reduceLeDiff, Int.cast_ofNat_Int, Int.reduceToNat, Int.reduceLT, Int.reduceLE, Int.reduceGE, Int.reduceGT, Int.reduceEq, Int.reduceNe, Int.reduceAdd, Int.reduceSub, Int.reduceNeg, decide_true, decide_false, Int.toNat_natCast, reduceCtorEq, List.nil_append, List.cons_append, AV.boxy, AV.cells, List.length_cons, List.length_nil, Nat.beq_refl, AOp.cl, ↓OW_guard, ↓DW_guard, KDW_0, KDW_1, KDW_2, OWskip_eq, fillA, setAt, DChk, DAt, stepA, ble_dec, beq_dec, Bool.and_self, Bool.and_true, Bool.true_and, Bool.and_false, Bool.false_and, List.take_succ_cons, List.take_zero, List.drop_succ_cons, List.drop_zero, List.take_nil, List.drop_nil, List.append_nil, eqAV, eqAVL, BEq.rfl, sameS, Option.map, Option.isNone, wrap64, gt_iff_lt, ge_iff_le, Int.lt_irrefl, Int.le_refl]
      refine CW.mono (c_Prefix nl nl0) ?_
      rintro u H' ⟨rfl, rfl⟩
      simp -implicitDefEqProofs only [g0, g1, g2, low, e0, hmn', hmx', List.length_nil, Int.natCast_zero, ↓WP_seq, ↓WP_skip, ↓WP_region, ↓WP_dregion, ↓WP_cond, ↓WP_block, ↓WP_exit, ↓WP_ret, ↓OW_nil, ↓OW_cons, ↓DW_nil, ↓DW_cons, ↓XW_call, XW, exA, KO_eq, OptK_some, EvK_some, GW2_true, GW2_false, KS_normal, KS_ret, KS_exit, KB_normal, KB_ret, KB_exit, CP2_bool, RP_ret, putA_some, ev_t, ev_c, evs, evo, wantA, initA, resA, Tr.get_set, vl, chkOk, cond_true, cond_false, Nat.add_zero, Nat.mul_one, Nat.one_mul, Nat.zero_add, Nat.zero_mul, aggOf, pInt, binA, unA, intA, beq_true, beq_false, Bool.not_true, Bool.not_false, Bool.not_eq_true, and_self, and_true, true_and, ↓reduceIte, reduceIte, Nat.reduceEqDiff, Nat.succ_ne_self, Nat.reduceAdd, Nat.reduceMul, Nat.reduceSub, Nat.reduceBEq, Nat.reduceLT, Nat.reduceLeDiff, Int.cast_ofNat_Int, Int.reduceToNat, Int.reduceLT, Int.reduceLE, Int.reduceGE, Int.reduceGT, Int.reduceEq, Int.reduceNe, Int.reduceAdd, Int.reduceSub, Int.reduceNeg, decide_true, decide_false, Int.toNat_natCast, reduceCtorEq, List.nil_append, List.cons_append, AV.boxy, AV.cells, List.length_cons, List.length_nil, Nat.beq_refl, AOp.cl, ↓OW_guard, ↓DW_guard, KDW_0, KDW_1, KDW_2, OWskip_eq, fillA, setAt, DChk, DAt, stepA, ble_dec, beq_dec, Bool.and_self, Bool.and_true, Bool.true_and, Bool.and_false, Bool.false_and, List.take_succ_cons, List.take_zero, List.drop_succ_cons, List.drop_zero, List.take_nil, List.drop_nil, List.append_nil, eqAV, eqAVL, BEq.rfl, sameS, Option.map, Option.isNone, wrap64, gt_iff_lt, ge_iff_le, Int.lt_irrefl, Int.le_refl]
      refine CW.mono (c_Agrees p5 nl) ?_
      rintro u H' ⟨rfl, rfl⟩
      simp -implicitDefEqProofs only [g0, g1, g2, q1, e0, hmn', hmx', List.length_nil, Int.natCast_zero, ↓WP_seq, ↓WP_skip, ↓WP_region, ↓WP_dregion, ↓WP_cond, ↓WP_block, ↓WP_exit, ↓WP_ret, ↓OW_nil, ↓OW_cons, ↓DW_nil, ↓DW_cons, ↓XW_call, XW, exA, KO_eq, OptK_some, EvK_some, GW2_true, GW2_false, KS_normal, KS_ret, KS_exit, KB_normal, KB_ret, KB_exit, CP2_bool, RP_ret, putA_some, ev_t, ev_c, evs, evo, wantA, initA, resA, Tr.get_set, vl, chkOk, cond_true, cond_false, Nat.add_zero, Nat.mul_one, Nat.one_mul, Nat.zero_add, Nat.zero_mul, aggOf, pInt, binA, unA, intA, beq_true, beq_false, Bool.not_true, Bool.not_false, Bool.not_eq_true, and_self, and_true, true_and, ↓reduceIte, reduceIte, Nat.reduceEqDiff, Nat.succ_ne_self, Nat.reduceAdd, Nat.reduceMul, Nat.reduceSub, Nat.reduceBEq, Nat.reduceLT, Nat.reduceLeDiff, Int.cast_ofNat_Int, Int.reduceToNat, Int.reduceLT, Int.reduceLE, Int.reduceGE, Int.reduceGT, Int.reduceEq, Int.reduceNe, Int.reduceAdd, Int.reduceSub, Int.reduceNeg, decide_true, decide_false, Int.toNat_natCast, reduceCtorEq, List.nil_append, List.cons_append, AV.boxy, AV.cells, List.length_cons, List.length_nil, Nat.beq_refl, AOp.cl, ↓OW_guard, ↓DW_guard, KDW_0, KDW_1, KDW_2, OWskip_eq, fillA, setAt, DChk, DAt, stepA, ble_dec, beq_dec, Bool.and_self, Bool.and_true, Bool.true_and, Bool.and_false, Bool.false_and, List.take_succ_cons, List.take_zero, List.drop_succ_cons, List.drop_zero, List.take_nil, List.drop_nil, List.append_nil, eqAV, eqAVL, BEq.rfl, sameS, Option.map, Option.isNone, wrap64, gt_iff_lt, ge_iff_le, Int.lt_irrefl, Int.le_refl]
      refine CW.mono (c_Agrees p5 nl0) ?_
      rintro u H' ⟨rfl, rfl⟩
      simp -implicitDefEqProofs only [g0, g1, g2, q1, e0, hmn', hmx', List.length_nil, Int.natCast_zero, ↓WP_seq, ↓WP_skip, ↓WP_region, ↓WP_dregion, ↓WP_cond, ↓WP_block, ↓WP_exit, ↓WP_ret, ↓OW_nil, ↓OW_cons, ↓DW_nil, ↓DW_cons, ↓XW_call, XW, exA, KO_eq, OptK_some, EvK_some, GW2_true, GW2_false, KS_normal, KS_ret, KS_exit, KB_normal, KB_ret, KB_exit, CP2_bool, RP_ret, putA_some, ev_t, ev_c, evs, evo, wantA, initA, resA, Tr.get_set, vl, chkOk, cond_true, cond_false, Nat.add_zero, Nat.mul_one, Nat.one_mul, Nat.zero_add, Nat.zero_mul, aggOf, pInt, binA, unA, intA, beq_true, beq_false, Bool.not_true, Bool.not_false, Bool.not_eq_true, and_self, and_true, true_and, ↓reduceIte, reduceIte, Nat.reduceEqDiff, Nat.succ_ne_self, Nat.reduceAdd, Nat.reduceMul, Nat.reduceSub, Nat.reduceBEq, Nat.reduceLT, Nat.reduceLeDiff, Int.cast_ofNat_Int, Int.reduceToNat, Int.reduceLT, Int.reduceLE, Int.reduceGE, Int.reduceGT, Int.reduceEq, Int.reduceNe, Int.reduceAdd, Int.reduceSub, Int.reduceNeg, decide_true, decide_false, Int.toNat_natCast, reduceCtorEq, List.nil_append, List.cons_append, AV.boxy, AV.cells, List.length_cons, List.length_nil, Nat.beq_refl, AOp.cl, ↓OW_guard, ↓DW_guard, KDW_0, KDW_1, KDW_2, OWskip_eq, fillA, setAt, DChk, DAt, stepA, ble_dec, beq_dec, Bool.and_self, Bool.and_true, Bool.true_and, Bool.and_false, Bool.false_and, List.take_succ_cons, List.take_zero, List.drop_succ_cons, List.drop_zero, List.take_nil, List.drop_nil, List.append_nil, eqAV, eqAVL, BEq.rfl, sameS, Option.map, Option.isNone, wrap64, gt_iff_lt, ge_iff_le, Int.lt_irrefl, Int.le_refl]
      refine CW.mono (c_Agrees nl0 nl0) ?_
      rintro u H' ⟨rfl, rfl⟩
      simp -implicitDefEqProofs only [g0, g1, g2, q3, e0, hmn', hmx', List.length_nil, Int.natCast_zero, ↓WP_seq, ↓WP_skip, ↓WP_region, ↓WP_dregion, ↓WP_cond, ↓WP_block, ↓WP_exit, ↓WP_ret, ↓OW_nil, ↓OW_cons, ↓DW_nil, ↓DW_cons, ↓XW_call, XW, exA, KO_eq, OptK_some, EvK_some, GW2_true, GW2_false, KS_normal, KS_ret, KS_exit, KB_normal, KB_ret, KB_exit, CP2_bool, RP_ret, putA_some, ev_t, ev_c, evs, evo, wantA, initA, resA, Tr.get_set, vl, chkOk, cond_true, cond_false, Nat.add_zero, Nat.mul_one, Nat.one_mul, Nat.zero_add, Nat.zero_mul, aggOf, pInt, binA, unA, intA, beq_true, beq_false, Bool.not_true, Bool.not_false, Bool.not_eq_true, and_self, and_true, true_and, ↓reduceIte, reduceIte, Nat.reduceEqDiff, Nat.succ_ne_self, Nat.reduceAdd, Nat.reduceMul, Nat.reduceSub, Nat.reduceBEq, Nat.reduceLT, Nat.reduceLeDiff, Int.cast_ofNat_Int, Int.reduceToNat, Int.reduceLT, Int.reduceLE, Int.reduceGE, Int.reduceGT, Int.reduceEq, Int.reduceNe, Int.reduceAdd, Int.reduceSub, Int.reduceNeg, decide_true, decide_false, Int.toNat_natCast, reduceCtorEq, List.nil_append, List.cons_append, AV.boxy, AV.cells, List.length_cons, List.length_nil, Nat.beq_refl, AOp.cl, ↓OW_guard, ↓DW_guard, KDW_0, KDW_1, KDW_2, OWskip_eq, fillA, setAt, DChk, DAt, stepA, ble_dec, beq_dec, Bool.and_self, Bool.and_true, Bool.true_and, Bool.and_false, Bool.false_and, List.take_succ_cons, List.take_zero, List.drop_succ_cons, List.drop_zero, List.take_nil, List.drop_nil, List.append_nil, eqAV, eqAVL, BEq.rfl, sameS, Option.map, Option.isNone, wrap64, gt_iff_lt, ge_iff_le, Int.lt_irrefl, Int.le_refl]
      refine CW.mono (c_Prefix nl nl) ?_
      rintro u H' ⟨rfl, rfl⟩
      simp -implicitDefEqProofs only [eqA_bool, beq_self_eq_true, g0, g1, g2, low, e0, hmn', hmx', List.length_nil, Int.natCast_zero, ↓WP_seq, ↓WP_skip, ↓WP_region, ↓WP_dregion, ↓WP_cond, ↓WP_block, ↓WP_exit, ↓WP_ret, ↓OW_nil, ↓OW_cons, ↓DW_nil, ↓DW_cons, ↓XW_call, XW, exA, KO_eq, OptK_some, EvK_some, GW2_true, GW2_false, KS_normal, KS_ret, KS_exit, KB_normal, KB_ret, KB_exit, CP2_bool, RP_ret, putA_some, ev_t, ev_c, evs, evo, wantA, initA, resA, Tr.get_set, vl, chkOk, cond_true, cond_false, Nat.add_zero, Nat.mul_one, Nat.one_mul, Nat.zero_add, Nat.zero_mul, aggOf, pInt, binA, unA, intA, beq_true, beq_false, Bool.not_true, Bool.not_false, Bool.not_eq_true, and_self, and_true, true_and, ↓reduceIte, reduceIte, Nat.reduceEqDiff, Nat.succ_ne_self, Nat.reduceAdd, Nat.reduceMul, Nat.reduceSub, Nat.reduceBEq, Nat.reduceLT, Nat.reduceLeDiff, Int.cast_ofNat_Int, Int.reduceToNat, Int.reduceLT, Int.reduceLE, Int.reduceGE, Int.reduceGT, Int.reduceEq, Int.reduceNe, Int.reduceAdd, Int.reduceSub, Int.reduceNeg, decide_true, decide_false, Int.toNat_natCast, reduceCtorEq, List.nil_append, List.cons_append, AV.boxy, AV.cells, List.length_cons, List.length_nil, Nat.beq_refl, AOp.cl, ↓OW_guard, ↓DW_guard, KDW_0, KDW_1, KDW_2, OWskip_eq, fillA, setAt, DChk, DAt, stepA, ble_dec, beq_dec, Bool.and_self, Bool.and_true, Bool.true_and, Bool.and_false, Bool.false_and, List.take_succ_cons, List.take_zero, List.drop_succ_cons, List.drop_zero, List.take_nil, List.drop_nil, List.append_nil, eqAV, eqAVL, BEq.rfl, sameS, Option.map, Option.isNone, wrap64, gt_iff_lt, ge_iff_le, Int.lt_irrefl, Int.le_refl]
      refine CW.mono c_known25 ?_
      rintro u H4 ⟨rfl, s4⟩
      simp -implicitDefEqProofs only [g0, g1, g2, ↓WP_seq, ↓WP_skip, ↓WP_region, ↓WP_dregion, ↓WP_cond, ↓WP_block, ↓WP_exit, ↓WP_ret, ↓OW_nil, ↓OW_cons, ↓DW_nil, ↓DW_cons, ↓XW_call, XW, exA, KO_eq, OptK_some, EvK_some, GW2_true, GW2_false, KS_normal, KS_ret, KS_exit, KB_normal, KB_ret, KB_exit, CP2_bool, RP_ret, putA_some, ev_t, ev_c, evs, evo, wantA, initA, resA, Tr.get_set, vl, chkOk, cond_true, cond_false, Nat.add_zero, Nat.mul_one, Nat.one_mul, Nat.zero_add, Nat.zero_mul, aggOf, pInt, binA, unA, intA, beq_true, beq_false, Bool.not_true, Bool.not_false, Bool.not_eq_true, and_self, and_true, true_and, ↓reduceIte, reduceIte, Nat.reduceEqDiff, Nat.succ_ne_self, Nat.reduceAdd, Nat.reduceMul, Nat.reduceSub, Nat.reduceBEq, Nat.reduceLT, Nat.reduceLeDiff, Int.cast_ofNat_Int, Int.reduceToNat, Int.reduceLT, Int.reduceLE, Int.reduceGE, Int.reduceGT, Int.reduceEq, Int.reduceNe, Int.reduceAdd, Int.reduceSub, Int.reduceNeg, decide_true, decide_false, Int.toNat_natCast, reduceCtorEq, List.nil_append, List.cons_append, AV.boxy, AV.cells, List.length_cons, List.length_nil, Nat.beq_refl, AOp.cl, ↓OW_guard, ↓DW_guard, KDW_0, KDW_1, KDW_2, OWskip_eq, fillA, setAt, DChk, DAt, stepA, ble_dec, beq_dec, Bool.and_self, Bool.and_true, Bool.true_and, Bool.and_false, Bool.false_and, List.take_succ_cons, List.take_zero, List.drop_succ_cons, List.drop_zero, List.take_nil, List.drop_nil, List.append_nil, eqAV, eqAVL, BEq.rfl, sameS, Option.map, Option.isNone, wrap64, gt_iff_lt, ge_iff_le, Int.lt_irrefl, Int.le_refl]
      exact p4.trans s4
    · have e1 := fun k (hk : k ≤ L.length) => slA_pre (x := x) (o := o) (s := 4) (cl := cl) hk
      simp only [beq_dec] at e1
      have em := e1 mn mnl
      have ex := e1 mx mxl
      have ea := e1 A A1'
      have eb := e1 B B1'
      obtain ⟨v2, H2, p1, p2, v3, H3, p3, p4, p5⟩ := app_low (hL.preE (cl' := cl && decide (mn = L.length)) mn mnl) (by rw [List.length_take]; omega) ⟨5, 0, 0, 0⟩
      have h3 := MonoE.enc.sl _ _ _ _ hL p4
      have pre := fun k (hk : k ≤ L.length) cl' => h3.preE (cl' := cl') k hk
      simp only [evC] at p3
      simp -implicitDefEqProofs only [g0, g1, g2, hmn, hmx, em, ex, p1, p3, beq_dec, ↓WP_seq, ↓WP_skip, ↓WP_region, ↓WP_dregion, ↓WP_cond, ↓WP_block, ↓WP_exit, ↓WP_ret, ↓OW_nil, ↓OW_cons, ↓DW_nil, ↓DW_cons, ↓XW_call, XW, exA, KO_eq, OptK_some, EvK_some, GW2_true, GW2_false, KS_normal, KS_ret, KS_exit, KB_normal, KB_ret, KB_exit, CP2_bool, RP_ret, putA_some, ev_t, ev_c, evs, evo, wantA, initA, resA, Tr.get_set, vl, chkOk, cond_true, cond_false, Nat.add_zero, Nat.mul_one, Nat.one_mul, Nat.zero_add, Nat.zero_mul, aggOf, pInt, binA, unA, intA, beq_true, beq_false, Bool.not_true, Bool.not_false, Bool.not_eq_true, and_self, and_true, true_and, ↓reduceIte, reduceIte, Nat.reduceEqDiff, Nat.succ_ne_self, Nat.reduceAdd, Nat.reduceMul, Nat.reduceSub, Nat.reduceBEq, Nat.reduceLT, Nat.reduceLeDiff, Int.cast_ofNat_Int, Int.reduceToNat, Int.reduceLT, Int.reduceLE, Int.reduceGE, Int.reduceGT, Int.reduceEq, Int.reduceNe, Int.reduceAdd, Int.reduceSub, Int.reduceNeg, decide_true, decide_false, Int.toNat_natCast, reduceCtorEq, List.nil_append, List.cons_append, AV.boxy, AV.cells, List.length_cons, List.length_nil, Nat.beq_refl, AOp.cl, ↓OW_guard, ↓DW_guard, KDW_0, KDW_1, KDW_2, OWskip_eq, fillA, setAt, DChk, DAt, stepA, ble_dec, beq_dec, Bool.and_self, Bool.and_true, Bool.true_and, Bool.and_false, Bool.false_and, List.take_succ_cons, List.take_zero, List.drop_succ_cons, List.drop_zero, List.take_nil, List.drop_nil, List.append_nil, eqAV, eqAVL, BEq.rfl, sameS, Option.map, Option.isNone, wrap64, gt_iff_lt, ge_iff_le, Int.lt_irrefl, Int.le_refl]
      refine CW.mono (c_Prefix (pre mn mnl _) (pre mx mxl _)) ?_
      rintro u H' ⟨rfl, rfl⟩
      simp -implicitDefEqProofs only [g0, g1, g2, low, hmn, hmx, em, ex, ea, eb, ↓WP_seq, ↓WP_skip, ↓WP_region, ↓WP_dregion, ↓WP_cond, ↓WP_block, ↓WP_exit, ↓WP_ret, ↓OW_nil, ↓OW_cons, ↓DW_nil, ↓DW_cons, ↓XW_call, XW, exA, KO_eq, OptK_some, EvK_some, GW2_true, GW2_false, KS_normal, KS_ret, KS_exit, KB_normal, KB_ret, KB_exit, CP2_bool, RP_ret, putA_some, ev_t, ev_c, evs, evo, wantA, initA, resA, Tr.get_set, vl, chkOk, cond_true, cond_false, Nat.add_zero, Nat.mul_one, Nat.one_mul, Nat.zero_add, Nat.zero_mul, aggOf, pInt, binA, unA, intA, beq_true, beq_false, Bool.not_true, Bool.not_false, Bool.not_eq_true, and_self, and_true, true_and, ↓reduceIte, reduceIte, Nat.reduceEqDiff, Nat.succ_ne_self, Nat.reduceAdd, Nat.reduceMul, Nat.reduceSub, Nat.reduceBEq, Nat.reduceLT, Nat.reduceLeDiff, Int.cast_ofNat_Int, Int.reduceToNat, Int.reduceLT, Int.reduceLE, Int.reduceGE, Int.reduceGT, Int.reduceEq, Int.reduceNe, Int.reduceAdd, Int.reduceSub, Int.reduceNeg, decide_true, decide_false, Int.toNat_natCast, reduceCtorEq, List.nil_append, List.cons_append, AV.boxy, AV.cells, List.length_cons, List.length_nil, Nat.beq_refl, AOp.cl, ↓OW_guard, ↓DW_guard, KDW_0, KDW_1, KDW_2, OWskip_eq, fillA, setAt, DChk, DAt, stepA, ble_dec, beq_dec, Bool.and_self, Bool.and_true, Bool.true_and, Bool.and_false, Bool.false_and, List.take_succ_cons, List.take_zero, List.drop_succ_cons, List.drop_zero, List.take_nil, List.drop_nil, List.append_nil, eqAV, eqAVL, BEq.rfl, sameS, Option.map, Option.isNone, wrap64, gt_iff_lt, ge_iff_le, Int.lt_irrefl, Int.le_refl]
      refine CW.mono (c_Prefix (pre A A1' _) h3) ?_
      rintro u H' ⟨rfl, rfl⟩
      simp -implicitDefEqProofs only [g0, g1, g2, aL, hmn, hmx, em, ex, ea, eb, ↓WP_seq, ↓WP_skip, ↓WP_region, ↓WP_dregion, ↓WP_cond, ↓WP_block, ↓WP_exit, ↓WP_ret, ↓OW_nil, ↓OW_cons, ↓DW_nil, ↓DW_cons, ↓XW_call, XW, exA, KO_eq, OptK_some, EvK_some, GW2_true, GW2_false, KS_normal, KS_ret, KS_exit, KB_normal, KB_ret, KB_exit, CP2_bool, RP_ret, putA_some, ev_t, ev_c, evs, evo, wantA, initA, resA, Tr.get_set, vl, chkOk, cond_true, cond_false, Nat.add_zero, Nat.mul_one, Nat.one_mul, Nat.zero_add, Nat.zero_mul, aggOf, pInt, binA, unA, intA, beq_true, beq_false, Bool.not_true, Bool.not_false, Bool.not_eq_true, and_self, and_true, true_and, ↓reduceIte, reduceIte, Nat.reduceEqDiff, Nat.succ_ne_self, Nat.reduceAdd, Nat.reduceMul, Nat.reduceSub, Nat.reduceBEq, Nat.reduceLT, Nat.reduceLeDiff, Int.cast_ofNat_Int, Int.reduceToNat, Int.reduceLT, Int.reduceLE, Int.reduceGE, Int.reduceGT, Int.reduceEq, Int.reduceNe, Int.reduceAdd, Int.reduceSub, Int.reduceNeg, decide_true, decide_false, Int.toNat_natCast, reduceCtorEq, List.nil_append, List.cons_append, AV.boxy, AV.cells, List.length_cons, List.length_nil, Nat.beq_refl, AOp.cl, ↓OW_guard, ↓DW_guard, KDW_0, KDW_1, KDW_2, OWskip_eq, fillA, setAt, DChk, DAt, stepA, ble_dec, beq_dec, Bool.and_self, Bool.and_true, Bool.true_and, Bool.and_false, Bool.false_and, List.take_succ_cons, List.take_zero, List.drop_succ_cons, List.drop_zero, List.take_nil, List.drop_nil, List.append_nil, eqAV, eqAVL, BEq.rfl, sameS, Option.map, Option.isNone, wrap64, gt_iff_lt, ge_iff_le, Int.lt_irrefl, Int.le_refl]
      refine CW.mono (c_Agrees p5 (pre mx mxl _)) ?_
      rintro u H' ⟨rfl, rfl⟩
      simp -implicitDefEqProofs only [g0, g1, g2, q1, hmn, hmx, em, ex, ea, eb, ↓WP_seq, ↓WP_skip, ↓WP_region, ↓WP_dregion, ↓WP_cond, ↓WP_block, ↓WP_exit, ↓WP_ret, ↓OW_nil, ↓OW_cons, ↓DW_nil, ↓DW_cons, ↓XW_call, XW, exA, KO_eq, OptK_some, EvK_some, GW2_true, GW2_false, KS_normal, KS_ret, KS_exit, KB_normal, KB_ret, KB_exit, CP2_bool, RP_ret, putA_some, ev_t, ev_c, evs, evo, wantA, initA, resA, Tr.get_set, vl, chkOk, cond_true, cond_false, Nat.add_zero, Nat.mul_one, Nat.one_mul, Nat.zero_add, Nat.zero_mul, aggOf, pInt, binA, unA, intA, beq_true, beq_false, Bool.not_true, Bool.not_false, Bool.not_eq_true, and_self, and_true, true_and, ↓reduceIte, reduceIte, Nat.reduceEqDiff, Nat.succ_ne_self, Nat.reduceAdd, Nat.reduceMul, Nat.reduceSub, Nat.reduceBEq, Nat.reduceLT, Nat.reduceLeDiff, Int.cast_ofNat_Int, Int.reduceToNat, Int.reduceLT, Int.reduceLE, Int.reduceGE, Int.reduceGT, Int.reduceEq, Int.reduceNe, Int.reduceAdd, Int.reduceSub, Int.reduceNeg, decide_true, decide_false, Int.toNat_natCast, reduceCtorEq, List.nil_append, List.cons_append, AV.boxy, AV.cells, List.length_cons, List.length_nil, Nat.beq_refl, AOp.cl, ↓OW_guard, ↓DW_guard, KDW_0, KDW_1, KDW_2, OWskip_eq, fillA, setAt, DChk, DAt, stepA, ble_dec, beq_dec, Bool.and_self, Bool.and_true, Bool.true_and, Bool.and_false, Bool.false_and, List.take_succ_cons, List.take_zero, List.drop_succ_cons, List.drop_zero, List.take_nil, List.drop_nil, List.append_nil, eqAV, eqAVL, BEq.rfl, sameS, Option.map, Option.isNone, wrap64, gt_iff_lt, ge_iff_le, Int.lt_irrefl, Int.le_refl]
      refine CW.mono (c_Agrees p5 h3) ?_
      rintro u H' ⟨rfl, rfl⟩
      simp -implicitDefEqProofs only [g0, g1, g2, q2, hmn, hmx, em, ex, ea, eb, ↓WP_seq, ↓WP_skip, ↓WP_region, ↓WP_dregion, ↓WP_cond, ↓WP_block, ↓WP_exit, ↓WP_ret, ↓OW_nil, ↓OW_cons, ↓DW_nil, ↓DW_cons, ↓XW_call, XW, exA, KO_eq, OptK_some, EvK_some, GW2_true, GW2_false, KS_normal, KS_ret, KS_exit, KB_normal, KB_ret, KB_exit, CP2_bool, RP_ret, putA_some, ev_t, ev_c, evs, evo, wantA, initA, resA, Tr.get_set, vl, chkOk, cond_true, cond_false, Nat.add_zero, Nat.mul_one, Nat.one_mul, Nat.zero_add, Nat.zero_mul, aggOf, pInt, binA, unA, intA, beq_true, beq_false, Bool.not_true, Bool.not_false, Bool.not_eq_true, and_self, and_true, true_and, ↓reduceIte, reduceIte, Nat.reduceEqDiff, Nat.succ_ne_self, Nat.reduceAdd, Nat.reduceMul, Nat.reduceSub, Nat.reduceBEq, Nat.reduceLT, Nat.reduceLeDiff, Int.cast_ofNat_Int, Int.reduceToNat, Int.reduceLT, Int.reduceLE, Int.reduceGE, Int.reduceGT, Int.reduceEq, Int.reduceNe, Int.reduceAdd, Int.reduceSub, Int.reduceNeg, decide_true, decide_false, Int.toNat_natCast, reduceCtorEq, List.nil_append, List.cons_append, AV.boxy, AV.cells, List.length_cons, List.length_nil, Nat.beq_refl, AOp.cl, ↓OW_guard, ↓DW_guard, KDW_0, KDW_1, KDW_2, OWskip_eq, fillA, setAt, DChk, DAt, stepA, ble_dec, beq_dec, Bool.and_self, Bool.and_true, Bool.true_and, Bool.and_false, Bool.false_and, List.take_succ_cons, List.take_zero, List.drop_succ_cons, List.drop_zero, List.take_nil, List.drop_nil, List.append_nil, eqAV, eqAVL, BEq.rfl, sameS, Option.map, Option.isNone, wrap64, gt_iff_lt, ge_iff_le, Int.lt_irrefl, Int.le_refl]
      refine CW.mono (c_Agrees h3 h3) ?_
      rintro u H' ⟨rfl, rfl⟩
      simp -implicitDefEqProofs only [g0, g1, g2, q3, hmn, hmx, em, ex, ea, eb, ↓WP_seq, ↓WP_skip, ↓WP_region, ↓WP_dregion, ↓WP_cond, ↓WP_block, ↓WP_exit, ↓WP_ret, ↓OW_nil, ↓OW_cons, ↓DW_nil, ↓DW_cons, ↓XW_call, XW, exA, KO_eq, OptK_some, EvK_some, GW2_true, GW2_false, KS_normal, KS_ret, KS_exit, KB_normal, KB_ret, KB_exit, CP2_bool, RP_ret, putA_some, ev_t, ev_c, evs, evo, wantA, initA, resA, Tr.get_set, vl, chkOk, cond_true, cond_false, Nat.add_zero, Nat.mul_one, Nat.one_mul, Nat.zero_add, Nat.zero_mul, aggOf, pInt, binA, unA, intA, beq_true, beq_false, Bool.not_true, Bool.not_false, Bool.not_eq_true, and_self, and_true, true_and, ↓reduceIte, reduceIte, Nat.reduceEqDiff, Nat.succ_ne_self, Nat.reduceAdd, Nat.reduceMul, Nat.reduceSub, Nat.reduceBEq, Nat.reduceLT, Nat.reduceLeDiff, Int.cast_ofNat_Int, Int.reduceToNat, Int.reduceLT, Int.reduceLE, Int.reduceGE, Int.reduceGT, Int.reduceEq, Int.reduceNe, Int.reduceAdd, Int.reduceSub, Int.reduceNeg, decide_true, decide_false, Int.toNat_natCast, reduceCtorEq, List.nil_append, List.cons_append, AV.boxy, AV.cells, List.length_cons, List.length_nil, Nat.beq_refl, AOp.cl, ↓OW_guard, ↓DW_guard, KDW_0, KDW_1, KDW_2, OWskip_eq, fillA, setAt, DChk, DAt, stepA, ble_dec, beq_dec, Bool.and_self, Bool.and_true, Bool.true_and, Bool.and_false, Bool.false_and, List.take_succ_cons, List.take_zero, List.drop_succ_cons, List.drop_zero, List.take_nil, List.drop_nil, List.append_nil, eqAV, eqAVL, BEq.rfl, sameS, Option.map, Option.isNone, wrap64, gt_iff_lt, ge_iff_le, Int.lt_irrefl, Int.le_refl]
      refine CW.mono (c_Prefix (pre A A1' _) (pre B B1' _)) ?_
      rintro u H' ⟨rfl, rfl⟩
      simp -implicitDefEqProofs only [eqA_bool, beq_self_eq_true, g0, g1, g2, q4, hab, hmn, hmx, em, ex, ea, eb, ↓WP_seq, ↓WP_skip, ↓WP_region, ↓WP_dregion, ↓WP_cond, ↓WP_block, ↓WP_exit, ↓WP_ret, ↓OW_nil, ↓OW_cons, ↓DW_nil, ↓DW_cons, ↓XW_call, XW, exA, KO_eq, OptK_some, EvK_some, GW2_true, GW2_false, KS_normal, KS_ret, KS_exit, KB_normal, KB_ret, KB_exit, CP2_bool, RP_ret, putA_some, ev_t, ev_c, evs, evo, wantA, initA, resA, Tr.get_set, vl, chkOk, cond_true, cond_false, Nat.add_zero, Nat.mul_one, Nat.one_mul, Nat.zero_add, Nat.zero_mul, aggOf, pInt, binA, unA, intA, beq_true, beq_false, Bool.not_true, Bool.not_false, Bool.not_eq_true, and_self, and_true, true_and, ↓reduceIte, reduceIte, Nat.reduceEqDiff, Nat.succ_ne_self, Nat.reduceAdd, Nat.reduceMul, Nat.reduceSub, Nat.reduceBEq, Nat.reduceLT, Nat.reduceLeDiff, Int.cast_ofNat_Int, Int.reduceToNat, Int.reduceLT, Int.reduceLE, Int.reduceGE, Int.reduceGT, Int.reduceEq, Int.reduceNe, Int.reduceAdd, Int.reduceSub, Int.reduceNeg, decide_true, decide_false, Int.toNat_natCast, reduceCtorEq, List.nil_append, List.cons_append, AV.boxy, AV.cells, List.length_cons, List.length_nil, Nat.beq_refl, AOp.cl, ↓OW_guard, ↓DW_guard, KDW_0, KDW_1, KDW_2, OWskip_eq, fillA, setAt, DChk, DAt, stepA, ble_dec, beq_dec, Bool.and_self, Bool.and_true, Bool.true_and, Bool.and_false, Bool.false_and, List.take_succ_cons, List.take_zero, List.drop_succ_cons, List.drop_zero, List.take_nil, List.drop_nil, List.append_nil, eqAV, eqAVL, BEq.rfl, sameS, Option.map, Option.isNone, wrap64, gt_iff_lt, ge_iff_le, Int.lt_irrefl, Int.le_refl]
      refine CW.mono c_known25 ?_
      rintro u H4 ⟨rfl, s4⟩
      simp -implicitDefEqProofs only [g0, g1, g2, ↓WP_seq, ↓WP_skip, ↓WP_region, ↓WP_dregion, ↓WP_cond, ↓WP_block, ↓WP_exit, ↓WP_ret, ↓OW_nil, ↓OW_cons, ↓DW_nil, ↓DW_cons, ↓XW_call, XW, exA, KO_eq, OptK_some, EvK_some, GW2_true, GW2_false, KS_normal, KS_ret, KS_exit, KB_normal, KB_ret, KB_exit, CP2_bool, RP_ret, putA_some, ev_t, ev_c, evs, evo, wantA, initA, resA, Tr.get_set, vl, chkOk, cond_true, cond_false, Nat.add_zero, Nat.mul_one, Nat.one_mul, Nat.zero_add, Nat.zero_mul, aggOf, pInt, binA, unA, intA, beq_true, beq_false, Bool.not_true, Bool.not_false, Bool.not_eq_true, and_self, and_true, true_and, ↓reduceIte, reduceIte, Nat.reduceEqDiff, Nat.succ_ne_self, Nat.reduceAdd, Nat.reduceMul, Nat.reduceSub, Nat.reduceBEq, Nat.reduceLT, Nat.reduceLeDiff, Int.cast_ofNat_Int, Int.reduceToNat, Int.reduceLT, Int.reduceLE, Int.reduceGE, Int.reduceGT, Int.reduceEq, Int.reduceNe, Int.reduceAdd, Int.reduceSub, Int.reduceNeg, decide_true, decide_false, Int.toNat_natCast, reduceCtorEq, List.nil_append, List.cons_append, AV.boxy, AV.cells, List.length_cons, List.length_nil, Nat.beq_refl, AOp.cl, ↓OW_guard, ↓DW_guard, KDW_0, KDW_1, KDW_2, OWskip_eq, fillA, setAt, DChk, DAt, stepA, ble_dec, beq_dec, Bool.and_self, Bool.and_true, Bool.true_and, Bool.and_false, Bool.false_and, List.take_succ_cons, List.take_zero, List.drop_succ_cons, List.drop_zero, List.take_nil, List.drop_nil, List.append_nil, eqAV, eqAVL, BEq.rfl, sameS, Option.map, Option.isNone, wrap64, gt_iff_lt, ge_iff_le, Int.lt_irrefl, Int.le_refl]
      exact p4.trans s4
end Go.Proofs.Ytaihjlemofgokaa.AA
