/- The table; slices; sizes. -/
import Derived.Test.YtaihjlemofgokaaGreatKHeaA
set_option linter.unusedSimpArgs false
set_option linter.unusedVariables false
namespace Go.Proofs.YtaihjlemofgokaaGreat.AA
open Go Go.RowKit
attribute [local go_sem ↓] exA_lookup stepA_lookup exA_mapEnt exA_entSt exA_delete exA_mapUpd WP_seq WP_skip WP_region WP_dregion WP_cond WP_block WP_exit WP_ret OW_nil OW_cons DW_nil DW_cons XW_call reduceIte OW_guard DW_guard
attribute [local go_sem] LkA_some EvA_some entL_some updM_some at0 at1 at2 XW exA KO_eq OptK_some EvK_some GW2_true GW2_false KS_normal KS_ret KS_exit KB_normal KB_ret KB_exit CP2_bool RP_ret RP_normal putA_some putA_none ev_t ev_c evs evo wantA initA resA Tr.get_set vl chkOk cond_true cond_false Nat.add_zero Nat.mul_one Nat.one_mul Nat.zero_add Nat.zero_mul aggOf pInt binA unA intA beq_true beq_false Bool.not_true Bool.not_false Bool.not_eq_true and_self and_true true_and reduceIte Nat.reduceEqDiff Nat.succ_ne_self Nat.reduceAdd Nat.reduceMul Nat.reduceSub Nat.reduceBEq Nat.reduceLT Nat.reduceLeDiff Int.cast_ofNat_Int Int.reduceToNat Int.reduceLT Int.reduceLE Int.reduceGE Int.reduceGT Int.reduceEq Int.reduceNe Int.reduceAdd Int.reduceSub Int.reduceNeg decide_true decide_false Int.toNat_natCast reduceCtorEq List.nil_append List.cons_append AV.boxy AV.cells List.length_cons List.length_nil Nat.beq_refl AOp.cl KDW_0 KDW_1 KDW_2 OWskip_eq DWskip_eq fillA setAt DChk DAt stepA ble_dec beq_dec Bool.and_self Bool.and_true Bool.true_and Bool.and_false Bool.false_and List.take_succ_cons List.take_zero List.drop_succ_cons List.drop_zero List.take_nil List.drop_nil List.append_nil eqAV eqAVL BEq.rfl sameS Option.map Option.isNone wrap64 gt_iff_lt ge_iff_le Int.lt_irrefl Int.le_refl
set_option maxRecDepth 100000
set_option maxHeartbeats 2000000
attribute [local irreducible] Tr.set
abbrev Pl := Int × Int
abbrev TG := Int → Option Pl
abbrev kI : Int → AV := fun k => .int .i64 k
structure TabR (H : AHeap) (b r1 r2 : Nat) (g : TG) : Prop where
  blk : Blk H b 2 fun i => if i = 0 then .map (some r1) else .map (some r2)
  place : MR kI pl H r1 g
  ids : ∃ f2 : Pl → Option Int, MR pl kI H r2 f2 ∧ ∀ p i, f2 p = some i ↔ g i = some p
  ne : b ≠ r1 ∧ b ≠ r2 ∧ r1 ≠ r2
  dom : ∀ i p, g i = some p → 4 ≤ i ∧ i < 1024
theorem TabR.keep {H H' : AHeap} {b r1 r2 : Nat} {g : TG} (h : TabR H b r1 r2 g) (hl : H.next ≤ H'.next) (hb : H'.get b = H.get b) (h1 : H'.get r1 = H.get r1) (h2 : H'.get r2 = H.get r2) : TabR H' b r1 r2 g := by
  obtain ⟨f2, hf, he⟩ := h.ids
  exact ⟨h.blk.keep' hl hb, h.place.keep hl h1, ⟨f2, hf.keep hl h2, he⟩, h.ne, h.dom⟩
theorem TabR.lds {H : AHeap} {b r1 r2 : Nat} {g : TG} (h : TabR H b r1 r2 g) : loadA H b 0 1 = some [.map (some r1)] ∧ loadA H b 1 1 = some [.map (some r2)] := ⟨h.blk.load (i := 0) (by omega), h.blk.load (i := 1) (by omega)⟩
theorem MR.lt {κ ν : Type} {kc : κ → AV} {vc : ν → AV} {H : AHeap} {r : Nat} {f : κ → Option ν} (h : MR kc vc H r f) : r < H.next := by
  obtain ⟨l, c, h⟩ := h
  exact h.lt
theorem TabR.lts {H : AHeap} {b r1 r2 : Nat} {g : TG} (h : TabR H b r1 r2 g) : b < H.next ∧ r1 < H.next ∧ r2 < H.next := by
  obtain ⟨f2, hf, -⟩ := h.ids
  exact ⟨h.blk.1, h.place.lt, hf.lt⟩
abbrev D2 (r1 r2 : Nat) : Nat → Prop := fun x => x = r1 ∨ x = r2
theorem c_New (H : AHeap) : CW MN 38 [] H fun v H' => ∃ b r1 r2, v = .ptr (some (b, 0)) ∧ TabR H' b r1 r2 (fun _ => none) ∧ H.next ≤ b ∧ H.next ≤ r1 ∧ H.next ≤ r2 ∧ Evo (fun _ => False) H H' := by
  refine CW_of (fn := af38) rfl ?_
  dsimp only [af38, qm, q, qG, qn, qi, qb, qB, qk, qc, qo, qg, qv, qr]
  simp -implicitDefEqProofs only [eqA, eqD, go_sem]
  have k0 := MR.new (kc := kI) (vc := pl) H
  have n1 : (H.new (.map [] 0)).next = H.next + 1 := rfl
  have k1 := MR.new (kc := pl) (vc := kI) (H.new (.map [] 0))
  have n2 : ((H.new (.map [] 0)).new (.map [] 0)).next = H.next + 2 := rfl
  refine ⟨_, _, _, rfl, ⟨Blk.newRow _ [_, _] _ ?_, k0.keep (by simp only [AHeap.newRow, next_new]; omega) ?_, ⟨fun _ => none, k1.keep (by simp only [AHeap.newRow, next_new]; omega) ?_, by simp⟩, by omega, by simp⟩, by omega, by omega, by omega, by simp [AHeap.newRow, next_new]; omega, fun j hj _ => ?_⟩
  · intro i v hv
    match i, hv with
    | 0, hv => simpa using hv
    | 1, hv => simpa using hv
  · rw [get_newRow (by omega), get_new, if_neg (by omega)]
  · rw [get_newRow (by omega)]
  · rw [get_newRow (by omega), get_new, if_neg (by omega), get_new, if_neg (by omega)]
theorem c_At {H : AHeap} {b r1 r2 : Nat} {g : TG} (h : TabR H b r1 r2 g) (n : Int) : CW MN 59 [.ptr (some (b, 0)), .int .i64 n] H fun v H' => v = .tuple [pl ((g n).getD (0, 0)), .bool (g n).isSome] ∧ Sm H H' := by
  refine CW_of (fn := af59) rfl ?_
  dsimp only [af59, qm, q, qG, qn, qi, qb, qB, qk, qc, qo, qg, qv, qr]
  have s1 := Chg.newRow H [.int .i64 0, .int .i64 0]
  have b1 := Blk.new H [.int .i64 0, .int .i64 0] (n := 2) rfl
  have hn1 : (H.newRow [.int .i64 0, .int .i64 0]).next = H.next + 1 := rfl
  generalize eH1 : H.newRow [.int .i64 0, .int .i64 0] = H1 at s1 b1 hn1
  have e0 : ∀ z, lookA (.sc .int) z true H1 r1 (.int .i64 n) = some (.tuple [(match g n with | some p => pl p | none => z), .bool (g n).isSome], H1) := fun z => by
    have hp := h.place.keep s1.1 (s1.gt h.lts.2.1)
    cases hg : g n with
    | none => exact hp.look_no keyed_int hg
    | some p => exact hp.look_yes keyed_int hg
  have l0 : loadA H1 b 0 1 = some [.map (some r1)] := by rw [s1.ld h.lts.1]; exact h.lds.1
  have e1 : ((match g n with | some p => pl p | none => .agg [.int .i64 0, .int .i64 0]) : AV) = .agg [.int .i64 ((g n).getD (0, 0)).1, .int .i64 ((g n).getD (0, 0)).2] := by cases g n <;> rfl
  obtain ⟨H2, q1, q2, q3, q4⟩ := store_new H1 [.int .i64 0, .int .i64 0] [.int .i64 ((g n).getD (0, 0)).1, .int .i64 ((g n).getD (0, 0)).2] rfl
  have l1 := q4.load (n := 2) rfl
  have b2 := b1.keep' (H' := H2) (by omega) (q3.gt (by omega))
  obtain ⟨H3, q5, q6, q7⟩ := b2.stores (i := 0) (vs := [.int .i64 ((g n).getD (0, 0)).1, .int .i64 ((g n).getD (0, 0)).2]) (by simp)
  have l2 := q6.load2 (i := 0) (by omega)
  simp -implicitDefEqProofs only [eH1, e0, e1, l0, l1, l2, q1, q5, eqA, eqD, go_sem]
  exact ⟨rfl, (s1.trans q3).ch (by omega) q7⟩
def Inj (g : TG) : Prop := ∀ i j p, g i = some p → g j = some p → i = j
open Classical in
noncomputable def ofG (g : TG) (p : Pl) : Option Int := if h : ∃ i, g i = some p then some h.choose else none
theorem ofG_iff {g : TG} (hi : Inj g) (p : Pl) (i : Int) : ofG g p = some i ↔ g i = some p := by
  unfold ofG
  by_cases h : ∃ i, g i = some p
  · rw [dif_pos h]
    constructor
    · rintro ⟨⟩; exact h.choose_spec
    · intro h'; rw [hi _ _ _ h.choose_spec h']
  · rw [dif_neg h]
    constructor
    · intro h'; cases h'
    · intro h'; exact absurd ⟨i, h'⟩ h
theorem TabR.inj {H : AHeap} {b r1 r2 : Nat} {g : TG} (h : TabR H b r1 r2 g) : Inj g := by
  obtain ⟨f2, -, he⟩ := h.ids
  intro i j p h1 h2
  have := (he p i).2 h1
  rw [(he p j).2 h2] at this
  exact (Option.some.inj this).symm
theorem TabR.of {H : AHeap} {b r1 r2 : Nat} {g : TG} (h : TabR H b r1 r2 g) : MR pl kI H r2 (ofG g) := by
  obtain ⟨f2, hf, he⟩ := h.ids
  have : f2 = ofG g := by
    funext p
    apply Option.ext
    intro i
    rw [he, ofG_iff h.inj]
  rwa [this] at hf
theorem MR.lookG {κ ν : Type} [DecidableEq κ] {sh : ESh} {kc : κ → AV} {vc : ν → AV} (hk : Keyed sh kc) {H : AHeap} {r : Nat} {f : κ → Option ν} (h : MR kc vc H r f) (k : κ) {zero : AV} {z : ν} (hz : vc z = zero) : lookA sh zero true H r (kc k) = some (.tuple [vc ((f k).getD z), .bool (f k).isSome], H) := by
  cases hf : f k with
  | none => rw [h.look_no hk hf, ← hz]; rfl
  | some v => rw [h.look_yes hk hf]; rfl
theorem c_Of {H : AHeap} {b r1 r2 : Nat} {g : TG} (h : TabR H b r1 r2 g) (x y : Int) : CW MN 64 [.ptr (some (b, 0)), .agg [.int .i64 x, .int .i64 y]] H fun v H' => v = .tuple [.int .i64 ((ofG g (x, y)).getD 0), .bool (ofG g (x, y)).isSome] ∧ Sm H H' := by
  refine CW_of (fn := af64) rfl ?_
  dsimp only [af64, qm, q, qG, qn, qi, qb, qB, qk, qc, qo, qg, qv, qr]
  have s1 := Chg.newRow H [.int .i64 x, .int .i64 y]
  have b1 := Rd.newRow H [.int .i64 x, .int .i64 y]
  generalize eH1 : H.newRow [.int .i64 x, .int .i64 y] = H1 at s1 b1
  have l1 := b1.load (n := 2) rfl
  have l0 : loadA H1 b 1 1 = some [.map (some r2)] := by rw [s1.ld h.lts.1]; exact h.lds.2
  have e0 : lookA (.parts [(0, 1, .sc .int), (1, 1, .sc .int)]) (.int .i64 0) true H1 r2 (.agg [.int .i64 x, .int .i64 y]) = _ := (h.of.keep s1.1 (s1.gt h.lts.2.2)).lookG keyed_two (x, y) (z := 0) rfl
  simp -implicitDefEqProofs only [eH1, e0, l0, l1, eqA, eqD, go_sem]
  exact s1
theorem fset_none {g : TG} {n : Int} (h : g n = none) : fset g n none = g := by
  funext j
  by_cases hj : j = n
  · subst hj; rw [fset_same, h]
  · rw [fset_ne hj]
theorem c_Give {H : AHeap} {b r1 r2 : Nat} {g : TG} (h : TabR H b r1 r2 g) (n : Int) : CW MN 70 [.ptr (some (b, 0)), .int .i64 n] H fun v H' => v = .bool (g n).isSome ∧ TabR H' b r1 r2 (fset g n none) ∧ Evo (D2 r1 r2) H H' := by
  refine CW_of (fn := af70) rfl ?_
  dsimp only [af70, qm, q, qG, qn, qi, qb, qB, qk, qc, qo, qg, qv, qr]
  obtain ⟨n1, n2, n3⟩ := h.lts
  obtain ⟨d1, d2, d3⟩ := h.ne
  have e0 : lookA (.sc .int) (.agg [.int .i64 0, .int .i64 0]) true H r1 (.int .i64 n) = _ := h.place.lookG keyed_int n (z := (0, 0)) rfl
  obtain ⟨H2, q1, q2, q3, q4⟩ := store_new H [.int .i64 0, .int .i64 0] [.int .i64 ((g n).getD (0, 0)).1, .int .i64 ((g n).getD (0, 0)).2] rfl
  cases hg : g n with
  | none =>
    rw [hg] at e0 q1 q4
    simp -implicitDefEqProofs only [Option.getD_none] at q1
    simp -implicitDefEqProofs only [e0, h.lds.1, pl, q1, Option.getD_none, Option.isSome_none, Bool.false_eq_true, eqA, eqD, go_sem]
    rw [fset_none hg]
    exact ⟨h.keep q3.1 (q3.gt n1) (q3.gt n2) (q3.gt n3), Evo.of_sm q3⟩
  | some p =>
    rw [hg] at e0 q1 q4
    have k2 := h.place.keep q3.1 (q3.gt n2)
    obtain ⟨H3, p1, p2, p3⟩ := k2.del keyed_int hg
    have o2 := h.of.keep (H' := H3) (by rw [p3.1]; exact q3.1) (by rw [p3.2 r2 (Ne.symm d3), q3.gt n3])
    have hof : ofG g p = some n := (ofG_iff h.inj p n).2 hg
    obtain ⟨H4, p4, p5, p6⟩ := o2.del keyed_two hof
    have l1 : loadA H2 b 0 1 = some [.map (some r1)] := by rw [q3.ld n1]; exact h.lds.1
    have l2 : loadA H3 b 1 1 = some [.map (some r2)] := by rw [p3.load d1, q3.ld n1]; exact h.lds.2
    have l2' : loadA H4 b 1 1 = some [.map (some r2)] := by rw [p6.load d2, l2]
    have l3 : loadA H3 H.next 0 2 = some [.int .i64 p.1, .int .i64 p.2] := by rw [p3.load (by omega)]; exact q4.load rfl
    have l3' : loadA H4 H.next 0 2 = some [.int .i64 p.1, .int .i64 p.2] := by rw [p6.load (by omega), l3]
    simp -implicitDefEqProofs only [Option.getD_some] at q1
    simp -implicitDefEqProofs only [pl, kI] at p1 p4
    simp -implicitDefEqProofs only [e0, h.lds.1, pl, q1, l1, l2, l2', l3, l3', p1, p4, Option.getD_some, Option.isSome_some, eqA, eqD, go_sem]
    refine ⟨⟨?_, p2.keep (by rw [p6.1]; exact Nat.le_refl _) (p6.2 r1 d3), ⟨fset (ofG g) p none, p5, fun q i => ?_⟩, h.ne, fun i q hi => ?_⟩, ?_⟩
    · exact h.blk.keep' (by rw [p6.1, p3.1]; exact q3.1) (by rw [p6.2 b d2, p3.2 b d1, q3.gt n1])
    · by_cases hq : q = p
      · subst hq
        rw [fset_same]
        constructor
        · intro h; cases h
        · intro hi
          by_cases hin : i = n
          · subst hin; rw [fset_same] at hi; cases hi
          · rw [fset_ne hin] at hi
            exact absurd (h.inj _ _ _ hi hg) hin
      · rw [fset_ne hq, ofG_iff h.inj]
        by_cases hin : i = n
        · subst hin
          rw [fset_same, hg]
          constructor
          · intro e; exact absurd (Option.some.inj e).symm hq
          · intro e; cases e
        · rw [fset_ne hin]
    · by_cases hin : i = n
      · subst hin; rw [fset_same] at hi; cases hi
      · rw [fset_ne hin] at hi
        exact h.dom i q hi
    · exact (Evo.of_sm (D := D2 r1 r2) q3).then ((Evo.of_ch (D := D2 r1 r2) p3 (.inl rfl)).then (Evo.of_ch p6 (.inr rfl)) fun _ _ h => h) fun _ _ h => h
set_option maxHeartbeats 2000000
def Lst (g : TG) (i : Int) : Prop := 4 ≤ i ∧ i < 1024 ∧ g i = none ∧ ∀ j, 4 ≤ j → j < i → g j ≠ none
theorem Lst.uniq {g : TG} {i j : Int} (h : Lst g i) (h' : Lst g j) : i = j := by
  obtain ⟨a1, a2, a3, a4⟩ := h
  obtain ⟨b1, b2, b3, b4⟩ := h'
  by_cases hij : i < j
  · exact absurd a3 (b4 i a1 hij)
  · by_cases hji : j < i
    · exact absurd b3 (a4 j b1 hji)
    · omega
open Classical in
noncomputable def tk (g : TG) (p : Pl) : Int × TG := if (∃ i, g i = some p) then (-1, g) else if h : ∃ i, Lst g i then (h.choose, fset g h.choose (some p)) else (-1, g)
theorem tk_in {g : TG} {p : Pl} (h : ∃ i, g i = some p) : tk g p = (-1, g) := by unfold tk; rw [if_pos h]
theorem tk_at {g : TG} {p : Pl} {i : Int} (h : ∀ j, g j ≠ some p) (hi : Lst g i) : tk g p = (i, fset g i (some p)) := by
  unfold tk
  have h' : ∃ i, Lst g i := ⟨i, hi⟩
  rw [if_neg (by rintro ⟨j, hj⟩; exact h j hj), dif_pos h', h'.choose_spec.uniq hi]
theorem tk_full {g : TG} {p : Pl} (h : ∀ j, g j ≠ some p) (hi : ∀ j, 4 ≤ j → j < 1024 → g j ≠ none) : tk g p = (-1, g) := by
  unfold tk
  rw [if_neg (by rintro ⟨j, hj⟩; exact h j hj), dif_neg]
  rintro ⟨i, h1, h2, h3, h4⟩
  exact hi i h1 h2 h3
theorem c_Take {H : AHeap} {b r1 r2 : Nat} {g : TG} (h : TabR H b r1 r2 g) (x y : Int) : CW MN 46 [.ptr (some (b, 0)), .agg [.int .i64 x, .int .i64 y]] H fun v H' => v = .int .i64 (tk g (x, y)).1 ∧ TabR H' b r1 r2 (tk g (x, y)).2 ∧ Evo (D2 r1 r2) H H' := by
  refine CW_of (fn := af46) rfl ?_
  dsimp only [af46, qm, q, qG, qn, qi, qb, qB, qk, qc, qo, qg, qv, qr]
  obtain ⟨n1, n2, n3⟩ := h.lts
  obtain ⟨d1, d2, d3⟩ := h.ne
  have s1 := Chg.newRow H [.int .i64 x, .int .i64 y]
  have b1 := Rd.newRow H [.int .i64 x, .int .i64 y]
  have hn1 : (H.newRow [.int .i64 x, .int .i64 y]).next = H.next + 1 := rfl
  generalize eH1 : H.newRow [.int .i64 x, .int .i64 y] = H1 at s1 b1 hn1
  have l1 := b1.load (n := 2) rfl
  have l0 : loadA H1 b 1 1 = some [.map (some r2)] := by rw [s1.ld n1]; exact h.lds.2
  have e0 : lookA (.parts [(0, 1, .sc .int), (1, 1, .sc .int)]) (.int .i64 0) true H1 r2 (.agg [.int .i64 x, .int .i64 y]) = _ := (h.of.keep s1.1 (s1.gt n3)).lookG keyed_two (x, y) (z := 0) rfl
  cases ho : ofG g (x, y) with
  | some i =>
    rw [ho] at e0
    have ht := tk_in ⟨i, (ofG_iff h.inj (x, y) i).1 ho⟩
    rw [ht]
    simp -implicitDefEqProofs only [eH1, e0, l0, l1, Option.isSome_some, eqA, eqD, go_sem]
    exact ⟨h.keep s1.1 (s1.gt n1) (s1.gt n2) (s1.gt n3), Evo.of_sm s1⟩
  | none =>
    rw [ho] at e0
    have hno : ∀ j, g j ≠ some (x, y) := fun j hj => by rw [(ofG_iff h.inj (x, y) j).2 hj] at ho; cases ho
    simp -implicitDefEqProofs only [eH1, e0, l0, l1, Option.isSome_none, Bool.false_eq_true, eqA, eqD, go_sem]
    refine WP_loop (fun n fr H' => ∃ i : Int, n = (1024 - i).toNat ∧ 4 ≤ i ∧ i ≤ 1024 ∧ (∀ j, 4 ≤ j → j < i → g j ≠ none) ∧ fr.get 0 = some (.ptr (some (b, 0))) ∧ fr.get 3 = some (.ptr (some (H.next, 0))) ∧ fr.get 7 = some (.int .i64 i) ∧ Chg H1 H' none) 1020 ?_ ?_
    · refine ⟨4, rfl, by omega, by omega, fun j h1 h2 => by omega, ?_⟩
      simp -implicitDefEqProofs only [eqA, eqD, go_sem]
      exact Chg.refl H1
    · rintro n fr H2 ⟨i, hn, hi1, hi2, hlo, g0, g3, g7, s2⟩
      have k1 := h.place.keep (H' := H2) (by have := s1.1; have := s2.1; omega) (by rw [s2.gt (by omega), s1.gt n2])
      have l2 : loadA H2 b 0 1 = some [.map (some r1)] := by rw [s2.ld (by omega), s1.ld n1]; exact h.lds.1
      have e1 : lookA (.sc .int) (.agg [.int .i64 0, .int .i64 0]) true H2 r1 (.int .i64 i) = _ := k1.lookG keyed_int i (z := (0, 0)) rfl
      by_cases hlt : i < 1024
      · obtain ⟨H3, q1, q2, q3, q4⟩ := store_new H2 [.int .i64 0, .int .i64 0] [.int .i64 ((g i).getD (0, 0)).1, .int .i64 ((g i).getD (0, 0)).2] rfl
        have hw : IntKind.i64.wrap (i + 1) = i + 1 := wrap64 (by omega) (by omega)
        cases hg : g i with
        | some p =>
          rw [hg] at e1 q1 q4
          simp -implicitDefEqProofs only [Option.getD_some] at q1
          simp -implicitDefEqProofs only [g0, g3, g7, hlt, e1, l2, q1, hw, pl, Option.getD_some, Option.isSome_some, Bool.false_eq_true, eqA, eqD, go_sem]
          refine ⟨(1024 - (i + 1)).toNat, by omega, i + 1, rfl, by omega, by omega, fun j h1 h2 => ?_, rfl, s2.trans q3⟩
          by_cases hj : j = i
          · subst hj; rw [hg]; simp
          · exact hlo j h1 (by omega)
        | none =>
          rw [hg] at e1 q1 q4
          simp -implicitDefEqProofs only [Option.getD_none] at q1
          have ht : tk g (x, y) = _ := tk_at hno ⟨hi1, hlt, hg, hlo⟩
          rw [ht]
          have s3 := s2.trans q3
          have m1 := h.place.keep (H' := H3) (by have := s1.1; have := s3.1; omega) (by rw [s3.gt (by omega), s1.gt n2])
          have m2 := h.of.keep (H' := H3) (by have := s1.1; have := s3.1; omega) (by rw [s3.gt (by omega), s1.gt n3])
          obtain ⟨v0, st, H4, H5, p1, p2, p3, p4, p5⟩ := m1.ent keyed_int (.agg [.int .i64 0, .int .i64 0]) i (x, y)
          obtain ⟨v1, st2, H6, H7, p6, p7, p8, p9, p10⟩ := (m2.keep (H' := H5) (by rw [p5.1]; exact Nat.le_refl _) (p5.2 r2 (Ne.symm d3))).ent keyed_two (.int .i64 0) (x, y) i
          have lb : ∀ G, G.get b = H3.get b → loadA G b 0 1 = some [.map (some r1)] ∧ loadA G b 1 1 = some [.map (some r2)] := fun G hG => by
            rw [loadA_congr hG, loadA_congr hG, s3.ld (by omega), s3.ld (by omega), s1.ld n1, s1.ld n1]; exact h.lds
          have lx : ∀ G, G.get H.next = H3.get H.next → loadA G H.next 0 2 = some [.int .i64 x, .int .i64 y] := fun G hG => by
            rw [loadA_congr hG, s3.ld (by omega)]; exact l1
          obtain ⟨a1, a2⟩ := lb H3 rfl
          obtain ⟨a3, a4⟩ := lb H4 (p4.2 b d1)
          obtain ⟨a5, a6⟩ := lb H5 (p5.2 b d1)
          obtain ⟨a7, a8⟩ := lb H6 (by rw [p9.2 b d2, p5.2 b d1])
          obtain ⟨a9, a10⟩ := lb H7 (by rw [p10.2 b d2, p5.2 b d1])
          have x1 := lx H3 rfl
          have x2 := lx H4 (p4.2 _ (by omega))
          have x3 := lx H5 (p5.2 _ (by omega))
          have x4 := lx H6 (by rw [p9.2 _ (by omega), p5.2 _ (by omega)])
          have x5 := lx H7 (by rw [p10.2 _ (by omega), p5.2 _ (by omega)])
          simp -implicitDefEqProofs only [pl, kI] at p1 p2 p6 p7
          simp -implicitDefEqProofs only [g0, g3, g7, hlt, e1, l2, q1, hw, pl, a1, a2, a3, a4, a5, a6, a7, a8, a9, a10, x1, x2, x3, x4, x5, p1, p2, p6, p7, Option.getD_none, Option.isSome_none, eqA, eqD, go_sem]
          have hE : Evo (D2 r1 r2) H H7 := (Evo.of_sm (s1.trans s3)).then ((Evo.of_ch (D := D2 r1 r2) p5 (.inl rfl)).then (Evo.of_ch p10 (.inr rfl)) fun _ _ h => h) fun _ _ h => h
          refine ⟨⟨?_, p3.keep (by rw [p10.1]; exact Nat.le_refl _) (p10.2 r1 d3), ⟨_, p8, fun q j => ?_⟩, h.ne, fun j q hj => ?_⟩, hE⟩
          · exact h.blk.keep' hE.1 (by rw [p10.2 b d2, p5.2 b d1, s3.gt (by omega), s1.gt n1])
          · by_cases hq : q = (x, y)
            · subst hq
              rw [fset_same]
              constructor
              · rintro ⟨⟩; rw [fset_same]
              · intro hj
                by_cases hji : j = i
                · rw [hji]
                · rw [fset_ne hji] at hj
                  exact absurd hj (hno j)
            · rw [fset_ne hq, ofG_iff h.inj]
              by_cases hji : j = i
              · subst hji
                rw [fset_same, hg]
                constructor
                · intro e; cases e
                · intro e; exact absurd (Option.some.inj e).symm hq
              · rw [fset_ne hji]
          · by_cases hji : j = i
            · subst hji; exact ⟨hi1, hlt⟩
            · rw [fset_ne hji] at hj
              exact h.dom j q hj
      · have hlt' : ¬ i < 1024 := hlt
        have ht : tk g (x, y) = _ := tk_full hno fun j h1 h2 => hlo j h1 (by omega)
        rw [ht]
        have s3 := s1.trans s2
        simp -implicitDefEqProofs only [g0, g3, g7, hlt', Bool.false_eq_true, eqA, eqD, go_sem]
        exact ⟨h.keep s3.1 (s3.gt n1) (s3.gt n2) (s3.gt n3), Evo.of_sm s3⟩
set_option maxHeartbeats 2000000
def swG (g : TG) (a b : Int) : TG := match g a, g b with
  | some p, some q => fset (fset g a (some q)) b (some p)
  | _, _ => g
theorem TabR.mk' {H H' : AHeap} {b r1 r2 : Nat} {g g' : TG} {f2 : Pl → Option Int} (h : TabR H b r1 r2 g) (hl : H.next ≤ H'.next) (hb : H'.get b = H.get b) (h1 : MR kI pl H' r1 g') (h2 : MR pl kI H' r2 f2) (he : ∀ p i, f2 p = some i ↔ g' i = some p) (hd : ∀ i p, g' i = some p → 4 ≤ i ∧ i < 1024) : TabR H' b r1 r2 g' :=
  ⟨h.blk.keep' hl hb, h1, ⟨f2, h2, he⟩, h.ne, hd⟩
theorem c_Swap_t {H : AHeap} {b r1 r2 : Nat} {g : TG} (h : TabR H b r1 r2 g) (x y : Int) : CW MN 58 [.ptr (some (b, 0)), .int .i64 x, .int .i64 y] H fun v H' => v = .bool ((g x).isSome && (g y).isSome) ∧ TabR H' b r1 r2 (swG g x y) ∧ Evo (D2 r1 r2) H H' := by
  refine CW_of (fn := af58) rfl ?_
  dsimp only [af58, qm, q, qG, qn, qi, qb, qB, qk, qc, qo, qg, qv, qr]
  obtain ⟨n1, n2, n3⟩ := h.lts
  obtain ⟨d1, d2, d3⟩ := h.ne
  have e0 : lookA (.sc .int) (.agg [.int .i64 0, .int .i64 0]) true H r1 (.int .i64 x) = _ := h.place.lookG keyed_int x (z := (0, 0)) rfl
  obtain ⟨H2, q1, q2, q3, q4⟩ := store_new H [.int .i64 0, .int .i64 0] [.int .i64 ((g x).getD (0, 0)).1, .int .i64 ((g x).getD (0, 0)).2] rfl
  have k2 := h.place.keep q3.1 (q3.gt n2)
  have e1 : lookA (.sc .int) (.agg [.int .i64 0, .int .i64 0]) true H2 r1 (.int .i64 y) = _ := k2.lookG keyed_int y (z := (0, 0)) rfl
  obtain ⟨H3, q5, q6, q7, q8⟩ := store_new H2 [.int .i64 0, .int .i64 0] [.int .i64 ((g y).getD (0, 0)).1, .int .i64 ((g y).getD (0, 0)).2] rfl
  have s3 := q3.trans q7
  have l1 : loadA H2 b 0 1 = some [.map (some r1)] := by rw [q3.ld n1]; exact h.lds.1
  by_cases hxy : (g x).isSome = true ∧ (g y).isSome = true
  · obtain ⟨hx, hy⟩ := hxy
    obtain ⟨p, hp⟩ := Option.isSome_iff_exists.1 hx
    obtain ⟨q, hq⟩ := Option.isSome_iff_exists.1 hy
    rw [hp] at e0 q1 q4
    rw [hq] at e1 q5 q8
    simp -implicitDefEqProofs only [Option.getD_some] at q1 q5
    have m1 := h.place.keep s3.1 (s3.gt n2)
    have m2 := h.of.keep s3.1 (s3.gt n3)
    obtain ⟨v0, st, H4, H5, p1, p2, p3, p4, p5⟩ := m1.ent keyed_int (.agg [.int .i64 0, .int .i64 0]) x q
    obtain ⟨v1, st2, H6, H7, p6, p7, p8, p9, p10⟩ := p3.ent keyed_int (.agg [.int .i64 0, .int .i64 0]) y p
    have p11 := p5.trans p10
    have p12 := p5.trans p9
    obtain ⟨v2, st3, H8, H9, u1, u2, u3, u4, u5⟩ := (m2.keep (H' := H7) (by rw [p11.1]; exact Nat.le_refl _) (p11.2 r2 (Ne.symm d3))).ent keyed_two (.int .i64 0) p y
    obtain ⟨v3, st4, HA, HB, u6, u7, u8, u9, u10⟩ := u3.ent keyed_two (.int .i64 0) q x
    have u11 := u5.trans u10
    have u12 := u5.trans u9
    obtain ⟨HC, w1, w2, w3⟩ := u8.upd keyed_two p x
    have u13 := u11.trans w3
    have lb : ∀ G, G.get b = H3.get b → loadA G b 0 1 = some [.map (some r1)] ∧ loadA G b 1 1 = some [.map (some r2)] := fun G hG => by
      rw [loadA_congr hG, loadA_congr hG, s3.ld n1, s3.ld n1]; exact h.lds
    have lx : ∀ G, G.get H.next = H3.get H.next → loadA G H.next 0 2 = some [.int .i64 p.1, .int .i64 p.2] := fun G hG => by
      rw [loadA_congr hG, q7.ld (by omega)]; exact q4.load rfl
    have ly : ∀ G, G.get H2.next = H3.get H2.next → loadA G H2.next 0 2 = some [.int .i64 q.1, .int .i64 q.2] := fun G hG => by
      rw [loadA_congr hG]; exact q8.load rfl
    have g4 : ∀ z, z ≠ r1 → H4.get z = H3.get z := p4.2
    have g5 : ∀ z, z ≠ r1 → H5.get z = H3.get z := p5.2
    have g6 : ∀ z, z ≠ r1 → H6.get z = H3.get z := p12.2
    have g7 : ∀ z, z ≠ r1 → H7.get z = H3.get z := p11.2
    have g8 : ∀ z, z ≠ r1 → z ≠ r2 → H8.get z = H3.get z := fun z h1 h2 => by rw [u4.2 z h2, g7 z h1]
    have g9 : ∀ z, z ≠ r1 → z ≠ r2 → H9.get z = H3.get z := fun z h1 h2 => by rw [u5.2 z h2, g7 z h1]
    have gA : ∀ z, z ≠ r1 → z ≠ r2 → HA.get z = H3.get z := fun z h1 h2 => by rw [u12.2 z h2, g7 z h1]
    have gB : ∀ z, z ≠ r1 → z ≠ r2 → HB.get z = H3.get z := fun z h1 h2 => by rw [u11.2 z h2, g7 z h1]
    have gC : ∀ z, z ≠ r1 → z ≠ r2 → HC.get z = H3.get z := fun z h1 h2 => by rw [u13.2 z h2, g7 z h1]
    have a3 := lb H3 rfl
    have a4 := lb H4 (g4 b d1)
    have a5 := lb H5 (g5 b d1)
    have a6 := lb H6 (g6 b d1)
    have a7 := lb H7 (g7 b d1)
    have a8 := lb H8 (g8 b d1 d2)
    have a9 := lb H9 (g9 b d1 d2)
    have aA := lb HA (gA b d1 d2)
    have aB := lb HB (gB b d1 d2)
    have aC := lb HC (gC b d1 d2)
    have z1 : H.next ≠ r1 := by omega
    have z2 : H.next ≠ r2 := by omega
    have z3 : H2.next ≠ r1 := by omega
    have z4 : H2.next ≠ r2 := by omega
    have x3 := lx H3 rfl
    have x4 := lx H4 (g4 _ z1)
    have x5 := lx H5 (g5 _ z1)
    have x6 := lx H6 (g6 _ z1)
    have x7 := lx H7 (g7 _ z1)
    have x8 := lx H8 (g8 _ z1 z2)
    have x9 := lx H9 (g9 _ z1 z2)
    have xA := lx HA (gA _ z1 z2)
    have xB := lx HB (gB _ z1 z2)
    have xC := lx HC (gC _ z1 z2)
    have y3 := ly H3 rfl
    have y4 := ly H4 (g4 _ z3)
    have y5 := ly H5 (g5 _ z3)
    have y6 := ly H6 (g6 _ z3)
    have y7 := ly H7 (g7 _ z3)
    have y8 := ly H8 (g8 _ z3 z4)
    have y9 := ly H9 (g9 _ z3 z4)
    have yA := ly HA (gA _ z3 z4)
    have yB := ly HB (gB _ z3 z4)
    simp -implicitDefEqProofs only [pl, kI] at p1 p2 p6 p7 u1 u2 u6 u7 w1
    have hs : swG g x y = fset (fset g x (some q)) y (some p) := by unfold swG; rw [hp, hq]
    have hd : ∀ i w, swG g x y i = some w → 4 ≤ i ∧ i < 1024 := fun i w hi => by
      rw [hs] at hi
      by_cases h1 : i = y
      · subst h1; exact h.dom _ _ hq
      · rw [fset_ne h1] at hi
        by_cases h2 : i = x
        · subst h2; exact h.dom _ _ hp
        · rw [fset_ne h2] at hi
          exact h.dom _ _ hi
    have hE1 : Evo (D2 r1 r2) H H7 := (Evo.of_sm s3).then (Evo.of_ch (D := D2 r1 r2) p11 (.inl rfl)) fun _ _ h => h
    have r7 : ∀ G, Ch r2 H7 G → MR kI pl G r1 (swG g x y) := fun G hG => by rw [hs]; exact p8.keep (by rw [hG.1]; exact Nat.le_refl _) (hG.2 r1 d3)
    by_cases hab : x = y
    · subst hab
      obtain rfl : p = q := by rw [hp] at hq; exact Option.some.inj hq
      simp -implicitDefEqProofs only [e0, e1, h.lds.1, l1, pl, q1, q5, a3, a4, a5, a6, a7, a8, a9, aA, aB, aC, x3, x4, x5, x6, x7, x8, x9, xA, xB, xC, y3, y4, y5, y6, y7, y8, y9, yA, yB, p1, p2, p6, p7, u1, u2, u6, u7, w1, hx, Option.getD_some, Option.isSome_some, Bool.false_eq_true, eqA, eqD, go_sem]
      refine ⟨h.mk' (by have := s3.1; rw [u13.1, p11.1]; exact this) (by rw [gC b d1 d2, s3.gt n1]) (r7 HC u13) w2 (fun w i => ?_) hd, hE1.then (Evo.of_ch u13 (.inr rfl)) fun _ _ h => h⟩
      rw [hs]
      by_cases hw : w = p
      · subst hw
        rw [fset_same]
        constructor
        · rintro ⟨⟩; rw [fset_same]
        · intro hi
          by_cases hix : i = x
          · rw [hix]
          · rw [fset_ne hix, fset_ne hix] at hi
            exact absurd (h.inj _ _ _ hi hp) hix
      · rw [fset_ne hw, fset_ne hw, fset_ne hw, ofG_iff h.inj]
        by_cases hix : i = x
        · subst hix
          rw [fset_same, hp]
        · rw [fset_ne hix, fset_ne hix]
    · have hab' : (x == y) = false := by simp [hab]
      have hpq : p ≠ q := fun e => by subst e; exact hab (h.inj _ _ _ hp hq)
      simp -implicitDefEqProofs only [e0, e1, h.lds.1, l1, pl, q1, q5, a3, a4, a5, a6, a7, a8, a9, aA, aB, x3, x4, x5, x6, x7, x8, x9, xA, xB, y3, y4, y5, y6, y7, y8, y9, yA, yB, p1, p2, p6, p7, u1, u2, u6, u7, hx, hy, hab', Option.getD_some, Option.isSome_some, Bool.false_eq_true, eqA, eqD, go_sem]
      refine ⟨h.mk' (by have := s3.1; rw [u11.1, p11.1]; exact this) (by rw [gB b d1 d2, s3.gt n1]) (r7 HB u11) u8 (fun w i => ?_) hd, hE1.then (Evo.of_ch u11 (.inr rfl)) fun _ _ h => h⟩
      rw [hs]
      by_cases hw : w = q
      · subst hw
        rw [fset_same]
        constructor
        · rintro ⟨⟩; rw [fset_ne hab, fset_same]
        · intro hi
          by_cases h1 : i = y
          · subst h1; rw [fset_same] at hi; exact absurd (Option.some.inj hi) hpq
          · rw [fset_ne h1] at hi
            by_cases h2 : i = x
            · rw [h2]
            · rw [fset_ne h2] at hi
              exact absurd (h.inj _ _ _ hi hq) h1
      · rw [fset_ne hw]
        by_cases hw2 : w = p
        · subst hw2
          rw [fset_same]
          constructor
          · rintro ⟨⟩; rw [fset_same]
          · intro hi
            by_cases h1 : i = y
            · rw [h1]
            · rw [fset_ne h1] at hi
              by_cases h2 : i = x
              · subst h2; rw [fset_same] at hi; exact absurd (Option.some.inj hi).symm hw
              · rw [fset_ne h2] at hi
                exact absurd (h.inj _ _ _ hi hp) h2
        · rw [fset_ne hw2, ofG_iff h.inj]
          by_cases h1 : i = y
          · subst h1
            rw [fset_same, hq]
            constructor
            · intro e; exact absurd (Option.some.inj e).symm hw
            · intro e; exact absurd (Option.some.inj e).symm hw2
          · rw [fset_ne h1]
            by_cases h2 : i = x
            · subst h2
              rw [fset_same, hp]
              constructor
              · intro e; exact absurd (Option.some.inj e).symm hw2
              · intro e; exact absurd (Option.some.inj e).symm hw
            · rw [fset_ne h2]
  · have hn : ((g x).isSome && (g y).isSome) = false := by
      cases hx : (g x).isSome <;> cases hy : (g y).isSome <;> simp_all
    have hs : swG g x y = g := by
      unfold swG
      cases hx : g x <;> cases hy : g y <;> simp_all
    rw [hs, hn]
    have hfin : TabR H3 b r1 r2 g ∧ Evo (D2 r1 r2) H H3 := ⟨h.keep s3.1 (s3.gt n1) (s3.gt n2) (s3.gt n3), Evo.of_sm s3⟩
    cases hx : (g x).isSome with
    | false =>
      rw [hx] at e0
      simp -implicitDefEqProofs only [e0, e1, h.lds.1, l1, pl, q1, q5, Bool.false_eq_true, Bool.not_false, Bool.not_true, eqA, eqD, go_sem]
      exact hfin
    | true =>
      have hy : (g y).isSome = false := by rw [hx] at hn; simpa using hn
      rw [hx] at e0
      rw [hy] at e1
      simp -implicitDefEqProofs only [e0, e1, h.lds.1, l1, pl, q1, q5, Bool.false_eq_true, Bool.not_false, Bool.not_true, eqA, eqD, go_sem]
      exact hfin
attribute [local go_sem ↓] WP_seq WP_skip WP_region WP_dregion WP_cond WP_block WP_exit WP_ret OW_nil OW_cons DW_nil DW_cons XW_call reduceIte OW_guard DW_guard
attribute [local go_sem] XW exA KO_eq OptK_some EvK_some GW2_true GW2_false KS_normal KS_ret KS_exit KB_normal KB_ret KB_exit CP2_bool RP_ret RP_normal putA_some putA_none ev_t ev_c evs evo wantA initA resA Tr.get_set vl chkOk cond_true cond_false Nat.add_zero Nat.mul_one Nat.one_mul Nat.zero_add Nat.zero_mul aggOf pInt binA unA intA beq_true beq_false Bool.not_true Bool.not_false Bool.not_eq_true and_self and_true true_and reduceIte Nat.reduceEqDiff Nat.succ_ne_self Nat.reduceAdd Nat.reduceMul Nat.reduceSub Nat.reduceBEq Nat.reduceLT Nat.reduceLeDiff Int.cast_ofNat_Int Int.reduceToNat Int.reduceLT Int.reduceLE Int.reduceGE Int.reduceGT Int.reduceEq Int.reduceNe Int.reduceAdd Int.reduceSub Int.reduceNeg decide_true decide_false Int.toNat_natCast reduceCtorEq List.nil_append List.cons_append AV.boxy AV.cells List.length_cons List.length_nil Nat.beq_refl AOp.cl KDW_0 KDW_1 KDW_2 OWskip_eq DWskip_eq fillA setAt DChk DAt stepA ble_dec beq_dec Bool.and_self Bool.and_true Bool.true_and Bool.and_false Bool.false_and List.take_succ_cons List.take_zero List.drop_succ_cons List.drop_zero List.take_nil List.drop_nil List.append_nil eqAV eqAVL BEq.rfl sameS Option.map Option.isNone wrap64 gt_iff_lt ge_iff_le Int.lt_irrefl Int.le_refl
set_option maxHeartbeats 2000000
theorem inj_none {g : TG} (h : Inj g) (n : Int) : Inj (fset g n none) := by
  intro i j p h1 h2
  by_cases e1 : i = n
  · subst e1; rw [fset_same] at h1; cases h1
  · by_cases e2 : j = n
    · subst e2; rw [fset_same] at h2; cases h2
    · rw [fset_ne e1] at h1
      rw [fset_ne e2] at h2
      exact h i j p h1 h2
theorem inj_some {g : TG} (h : Inj g) (n : Int) {p : Pl} (hp : ∀ j, g j ≠ some p) : Inj (fset g n (some p)) := by
  intro i j q h1 h2
  by_cases e1 : i = n
  · by_cases e2 : j = n
    · rw [e1, e2]
    · subst e1
      rw [fset_same] at h1
      rw [fset_ne e2, ← h1] at h2
      exact absurd h2 (hp j)
  · rw [fset_ne e1] at h1
    by_cases e2 : j = n
    · subst e2
      rw [fset_same] at h2
      rw [← h2] at h1
      exact absurd h1 (hp i)
    · rw [fset_ne e2] at h2
      exact h i j q h1 h2
theorem inj_swap {g : TG} (h : Inj g) (a c : Int) : Inj (swG g a c) := by
  unfold swG
  cases ha : g a with
  | none => exact h
  | some p =>
    cases hc : g c with
    | none => exact h
    | some q =>
      -- at i, the swapped table has what g has at the other one
      have key : ∀ i, fset (fset g a (some q)) c (some p) i = g (if i = c then a else if i = a then c else i) := by
        intro i
        by_cases e1 : i = c
        · rw [if_pos e1, e1, fset_same, ha]
        · rw [if_neg e1, fset_ne e1]
          by_cases e2 : i = a
          · rw [if_pos e2, e2, fset_same, hc]
          · rw [if_neg e2, fset_ne e2]
      intro i j r h1 h2
      dsimp only at h1 h2
      rw [key] at h1 h2
      have := h _ _ r h1 h2
      by_cases e1 : i = c <;> by_cases e2 : j = c <;> by_cases e3 : i = a <;> by_cases e4 : j = a <;> simp_all
def idsN (g : TG) (n : Nat) : List Int := ((List.range n).filter (fun i : Nat => (g i).isSome)).map (fun i : Nat => (i : Int))
abbrev idsI (g : TG) : List Int := idsN g 1024
abbrev ivs (l : List Int) : List AV := l.map iv
theorem idsN_succ (g : TG) (n : Nat) : idsN g (n + 1) = idsN g n ++ (if (g n).isSome then [(n : Int)] else []) := by
  unfold idsN
  rw [List.range_succ, List.filter_append, List.map_append]
  congr 1
  by_cases h : (g n).isSome = true
  · rw [if_pos h]; simp [h]
  · rw [if_neg h]; simp [h]
theorem mem_idsN {g : TG} {n : Nat} {k : Int} : k ∈ idsN g n ↔ 0 ≤ k ∧ k < n ∧ (g k).isSome = true := by
  unfold idsN
  rw [List.mem_map]
  constructor
  · rintro ⟨i, hi, rfl⟩
    rw [List.mem_filter, List.mem_range] at hi
    exact ⟨by omega, by omega, hi.2⟩
  · rintro ⟨h0, h1, h2⟩
    refine ⟨k.toNat, ?_, by omega⟩
    rw [List.mem_filter, List.mem_range]
    refine ⟨by omega, ?_⟩
    rwa [Int.toNat_of_nonneg h0]
theorem idsN_lt (g : TG) (n : Nat) : (idsN g n).Pairwise (· < ·) := by
  unfold idsN
  rw [List.pairwise_map]
  exact (List.Pairwise.filter _ List.pairwise_lt_range).imp fun h => by omega
theorem idsN_nodup (g : TG) (n : Nat) : (idsN g n).Nodup := (idsN_lt g n).imp fun h => by omega
theorem idsN_len (g : TG) (n : Nat) : (idsN g n).length ≤ n := by
  unfold idsN
  rw [List.length_map]
  have := List.length_filter_le (fun i : Nat => (g i).isSome) (List.range n)
  simpa using this
theorem c_IDs {H : AHeap} {b r1 r2 : Nat} {g : TG} (h : TabR H b r1 r2 g) : CW MN 79 [.ptr (some (b, 0))] H fun v H' => Sv H' v (idsI g).length (ivs (idsI g)) ∧ Sm H H' := by
  obtain ⟨l, c, hm⟩ := h.place
  have hkeys : keysI (encM kI pl l) = l.map (·.1) := by
    simp only [keysI, encM, List.map_map]
    rfl
  have hmem : ∀ k, k ∈ l.map (·.1) ↔ k ∈ idsI g := fun k => by
    rw [mem_idsN]
    constructor
    · intro hk
      obtain ⟨⟨k', v, n⟩, he, rfl⟩ := List.mem_map.1 hk
      have hv := (hm.val k' v).2 ⟨n, he⟩
      have := h.dom k' v hv
      exact ⟨by omega, by omega, by rw [hv]; rfl⟩
    · rintro ⟨-, -, h2⟩
      obtain ⟨v, hv⟩ := Option.isSome_iff_exists.1 h2
      obtain ⟨n, hn⟩ := (hm.val k v).1 hv
      exact List.mem_map.2 ⟨_, hn, rfl⟩
  have hp : (l.map (·.1)).Perm (idsI g) := (List.perm_ext_iff_of_nodup hm.keys (idsN_nodup g 1024)).2 hmem
  have hlen : (encM kI pl l).length = (idsI g).length := by rw [← hp.length_eq]; simp [encM]
  have hsort : (keysI (encM kI pl l)).mergeSort leI = idsI g := by
    rw [hkeys, sort_perm hp, List.mergeSort_of_pairwise]
    exact (idsN_lt g 1024).imp fun h => by simp only [leI, decide_eq_true_eq]; omega
  have hst : Stp (encM kI pl l) c := by
    refine ⟨fun e he => ?_, ?_, by rw [hlen]; have : (idsI g).length ≤ 1024 := idsN_len g 1024; omega⟩
    · obtain ⟨⟨k, v, n⟩, hx, rfl⟩ := List.mem_map.1 he
      exact ⟨k, pl v, n, rfl, hm.old _ hx⟩
    · simp only [encM, List.map_map]
      exact hm.born
  have ho : ∃ v H', idsO [.ptr (some (b, 0))] H = some (v, H') ∧ Sv H' v (idsI g).length (ivs (idsI g)) ∧ Sm H H' := by
    unfold idsO
    simp only [h.lds.1, hm.get, stpB_iff.2 hst, cond_true]
    by_cases he : encM kI pl l = []
    · rw [he, List.isEmpty_nil, cond_true]
      have : (idsI g).length = 0 := by rw [← hlen, he]; rfl
      refine ⟨_, _, rfl, ⟨none, 1, true, by rw [this], fun h => absurd this h⟩, Chg.refl H⟩
    · have hie : (encM kI pl l).isEmpty = false := by
        cases hh : encM kI pl l with
        | nil => exact absurd hh he
        | cons _ _ => rfl
      rw [hie, cond_false]
      refine ⟨_, _, rfl, ⟨some (H.next, 0), 1, true, by rw [hlen], fun _ => ⟨_, _, rfl, ?_⟩⟩, Sm.of (by simp [next_new]) fun x hx => by rw [get_new, if_neg (by omega)]⟩
      have hr : idsRow (keysI (encM kI pl l)) = ivs (idsI g) := by unfold idsRow; rw [isrt_eq, hsort]
      refine ⟨by simp [next_new], _, _, false, [], by rw [get_new, if_pos rfl], by rw [hlen]; simp, fun j v hj => ?_⟩
      have := (List.getElem?_eq_some_iff.1 hj).1
      rw [hr, get_ofL, if_pos (by omega)]
      simpa using hj
  obtain ⟨v, H', h1, h2⟩ := ho
  exact ⟨v, H', ⟨0, fun n _ => by
    have e : callA MN n 79 [.ptr (some (b, 0))] H = oraN 79 [.ptr (some (b, 0))] H := by unfold callA; rfl
    rw [e]
    exact h1⟩, h2⟩
theorem c_Same {H : AHeap} {u w : AV} {l : List Int} (hu : Sv H u l.length (ivs l)) (hw : Sv H w l.length (ivs l)) (hl : (l.length : Int) ≤ 9223372036854775807) : CW MN 32 [u, w] H fun v H' => v = .bool true ∧ H' = H := by
  refine CW_of (fn := af32) rfl ?_
  obtain ⟨a, s0, cl, rfl, ha⟩ := hu
  obtain ⟨a', s0', cl', rfl, ha'⟩ := hw
  dsimp only [af32, qm, q, qG, qn, qi, qb, qB, qk, qc, qo, qg, qv, qr]
  have e0 : ((l.length : Int) == (l.length : Int)) = true := by simp
  simp -implicitDefEqProofs only [bne_self_eq_false, Bool.false_eq_true, eqA, eqD, go_sem]
  refine WP_loop (fun n fr H' => ∃ i : Nat, n = l.length - i ∧ i ≤ l.length ∧ fr.get 0 = some (.slice a s0 l.length cl) ∧ fr.get 1 = some (.slice a' s0' l.length cl') ∧ fr.get 5 = some (.int .i64 i) ∧ H' = H) l.length ?_ ?_
  · refine ⟨0, rfl, by omega, ?_⟩
    simp -implicitDefEqProofs only [eqA, eqD, go_sem]
  · rintro n fr H1 ⟨i, hn, hi, g0, g1, g5, rfl⟩
    by_cases hlt : i < l.length
    · have hlt' : (i : Int) < l.length := by omega
      have i0 : (0 : Int) ≤ i := by omega
      obtain ⟨x, o, rfl, hr⟩ := ha (by omega)
      obtain ⟨x', o', rfl, hr'⟩ := ha' (by omega)
      have hx : (ivs l)[i]? = some (.int .i64 l[i]) := by simp [ivs, iv, hlt]
      have a1 := hr.one hx
      have a2 := hr'.one hx
      have hw : IntKind.i64.wrap ((i : Int) + 1) = ((i + 1 : Nat) : Int) := by rw [wrap64 (by omega) (by omega)]; omega
      simp -implicitDefEqProofs only [g0, g1, g5, i0, hlt', a1, a2, hw, bne_self_eq_false, Bool.false_eq_true, eqA, eqD, go_sem]
      exact ⟨l.length - (i + 1), by omega, i + 1, rfl, by omega, rfl⟩
    · have hlt' : ¬ (i : Int) < l.length := by omega
      simp -implicitDefEqProofs only [g0, g1, g5, hlt', Bool.false_eq_true, eqA, eqD, go_sem]
section
variable {α : Type} {E : Rep α} {s : Nat} {H : AHeap} {xs : List α}
theorem SlE.shape {v : AV} (h : SlE E s H xs [v]) : ∃ a s0 cl, v = .slice a s0 xs.length cl ∧ (a = none ∨ s0 = s) := by
  obtain ⟨a, s0, cl, e, k, -, -⟩ := h
  exact ⟨a, s0, cl, (List.cons.inj e).1, k⟩
theorem SlE.at {a : Option (Nat × Nat)} {s0 n : Nat} {cl : Bool} (h : SlE E s H xs [.slice a s0 n cl]) {i : Nat} (hi : i < xs.length) : ∃ x o l, a = some (x, o) ∧ s0 = s ∧ loadA H x (o + i * s) s = some l ∧ l.length = s ∧ E H xs[i] l ∧ Rd H x (o + i * s) l := by
  obtain ⟨a', s0', cl', e, k0, -, k⟩ := h
  cases e
  obtain ⟨x, o, cs, rfl, hr, hl, hj⟩ := k (by omega)
  have hle : (i + 1) * s ≤ xs.length * s := Nat.mul_le_mul_right s (by omega)
  rw [Nat.add_mul, Nat.one_mul] at hle
  have hlen : ((cs.drop (i * s)).take s).length = s := by simp; omega
  rcases hr.part (i * s) s with hr' | hr'
  · exact ⟨x, o, _, rfl, by rcases k0 with k0 | k0; cases k0; exact k0, hr'.load hlen, hlen, hj i hi, hr'⟩
  · omega
theorem SlE.max {l : List AV} (h : SlE E s H xs l) : xs.length ≤ 9223372036854775807 := by
  obtain ⟨a', s0', cl', e, k0, k1, -⟩ := h
  exact k1
theorem SlE.len {a : Option (Nat × Nat)} {s0 n : Nat} {cl : Bool} (h : SlE E s H xs [.slice a s0 n cl]) : n = xs.length := by
  obtain ⟨a', s0', cl', e, -⟩ := h
  cases e; rfl
end
def EncE {α : Type} (enc : α → List AV) (ok : α → Prop) : Rep α := fun _ a l => l = enc a ∧ ok a
theorem MonoE.enc {α : Type} {enc : α → List AV} {ok : α → Prop} : MonoE (EncE enc ok) := fun _ _ _ _ h _ => h
def I64 (n : Int) : Prop := -9223372036854775808 ≤ n ∧ n ≤ 9223372036854775807
abbrev Pr2 := Int × Int
def prC (p : Pr2) : List AV := [iv p.1, iv p.2]
def prOk (p : Pr2) : Prop := I64 p.1 ∧ I64 p.2
def byC (n : Nat) : List AV := [.int .u8 (n : Int)]
def byOk (n : Nat) : Prop := n < 256
def stC (s : List Nat) : List AV := [.str s]
def stOk (s : List Nat) : Prop := (∀ x, x ∈ s → x < 256) ∧ s.length ≤ 9223372036854775807
abbrev PrE := EncE prC prOk
abbrev ByE := EncE byC byOk
abbrev StE := EncE stC stOk
structure UClass where
  name : List Nat
  super : Int
  fields : Int
  binds : List Pr2
structure UMethod where
  args : Int
  temps : Int
  lits : List Pr2
  code : List Nat
structure UObj where
  cls : Int
  fields : List Pr2
structure UUnit where
  names : List (List Nat)
  classes : List UClass
  methods : List UMethod
  objects : List UObj
  main : Int
def ClE : Rep UClass := fun H c l => ∃ v, l = [.str c.name, iv c.super, iv c.fields, v] ∧ stOk c.name ∧ I64 c.super ∧ I64 c.fields ∧ SlE PrE 2 H c.binds [v]
def MeE : Rep UMethod := fun H m l => ∃ v w, l = [iv m.args, iv m.temps, v, w] ∧ I64 m.args ∧ I64 m.temps ∧ SlE PrE 2 H m.lits [v] ∧ SlE ByE 1 H m.code [w]
def ObE : Rep UObj := fun H o l => ∃ v, l = [iv o.cls, v] ∧ I64 o.cls ∧ SlE PrE 2 H o.fields [v]
def UnE : Rep UUnit := fun H u l => ∃ v1 v2 v3 v4, l = [v1, v2, v3, v4, iv u.main] ∧ I64 u.main ∧ SlE StE 1 H u.names [v1] ∧ SlE ClE 4 H u.classes [v2] ∧ SlE MeE 4 H u.methods [v3] ∧ SlE ObE 2 H u.objects [v4]
theorem MonoE.cl : MonoE ClE := fun H H' c l ⟨v, e, h1, h2, h3, h4⟩ hs => ⟨v, e, h1, h2, h3, MonoE.enc.sl _ _ _ _ h4 hs⟩
theorem MonoE.me : MonoE MeE := fun H H' c l ⟨v, w, e, h1, h2, h3, h4⟩ hs => ⟨v, w, e, h1, h2, MonoE.enc.sl _ _ _ _ h3 hs, MonoE.enc.sl _ _ _ _ h4 hs⟩
theorem MonoE.ob : MonoE ObE := fun H H' c l ⟨v, e, h1, h2⟩ hs => ⟨v, e, h1, MonoE.enc.sl _ _ _ _ h2 hs⟩
theorem MonoE.un : MonoE UnE := fun H H' c l ⟨v1, v2, v3, v4, e, h0, h1, h2, h3, h4⟩ hs => ⟨v1, v2, v3, v4, e, h0, MonoE.enc.sl _ _ _ _ h1 hs, MonoE.cl.sl _ _ _ _ h2 hs, MonoE.me.sl _ _ _ _ h3 hs, MonoE.ob.sl _ _ _ _ h4 hs⟩
theorem bnd {k n d : Nat} (h : k ≤ n) : boundA (some (.int .i64 (k : Int))) 0 n d = some k := by
  have : (0 : Int) ≤ (k : Int) ∧ (k : Int) ≤ (n : Int) := by omega
  simp [boundA, this]
set_option maxHeartbeats 2000000
def gClone (s bytes : Nat) : AFunc := { body := .seq (.region [{ dst := some 2, op := .mv (.c (.slice none 1 0 true)), guard := none }]) (.seq (.seq (.region [{ dst := some 3, op := .mv (.t 0), guard := none }, { dst := some 4, op := .bin (Go.BinOp.eql) (.sc (Go.Proofs.YtaihjlemofgokaaGreat.AA.SK.slice)) (.t 3) (.c (.slice none 1 0 true)), guard := none }]) (.cond (.t 4) (.seq (.region [{ dst := some 2, op := .mv (.c (.slice none 1 0 true)), guard := none }]) (.ret)) (.skip))) (.seq (.region [{ dst := some 5, op := .bslice s 0 [] [], guard := none }, { dst := some 6, op := .mv (.t 0), guard := none }, { dst := some 7, op := .append s bytes false (.t 5) (.t 6), guard := none }, { dst := some 2, op := .mv (.t 7), guard := none }]) (.ret))), results := [Sum.inl 2] }
def gClip (s : Nat) : AFunc := { body := .seq (.region [{ dst := some 2, op := .mv (.c (.slice none 1 0 true)), guard := none }]) (.seq (.region [{ dst := some 3, op := .mv (.t 0), guard := none }, { dst := some 4, op := .mv (.t 0), guard := none }, { dst := some 5, op := .lenS false (.t 4), guard := none }, { dst := some 6, op := .mv (.t 0), guard := none }, { dst := some 7, op := .lenS false (.t 6), guard := none }, { dst := some 8, op := .slSlice s (.t 3) none (some (.t 5)) (some (.t 7)), guard := none }, { dst := some 2, op := .mv (.t 8), guard := none }]) (.ret)), results := [Sum.inl 2] }
theorem wrapS {i n : Nat} (h : i < n) (hn : n ≤ 9223372036854775807) : IntKind.i64.wrap ((i : Int) + 1) = ((i + 1 : Nat) : Int) := by rw [wrap64 (by omega) (by omega)]; omega
section
variable {α : Type} {E : Rep α} {s : Nat} {H : AHeap} {xs : List α} {v : AV}
end
set_option maxHeartbeats 2000000
def OwS (n0 : Nat) (H : AHeap) (s n : Nat) (u : AV) : Prop := (n = 0 ∧ ∃ s0 cl, u = .slice none s0 0 cl) ∨ ∃ x cl cs, u = .slice (some (x, 0)) s n cl ∧ n0 ≤ x ∧ cs.length = n * s ∧ Arr H x cs fun _ => False
section
variable {α : Type} {E : Rep α} {s : Nat} {H : AHeap} {xs : List α} {v : AV}
theorem SlE.row (hE : MonoE E) {a : Option (Nat × Nat)} {s0 n : Nat} {cl : Bool} (h : SlE E s H xs [.slice a s0 n cl]) : ∃ cs, srcA H s false (.slice a s0 n cl) = some (cs, xs.length) ∧ cs.length = xs.length * s ∧ ∀ j (hj : j < xs.length), E H xs[j] ((cs.drop (j * s)).take s) := by
  obtain ⟨a', s0', cl', e, k0, k1, k⟩ := h
  cases e
  by_cases h0 : xs.length = 0
  · refine ⟨[], ?_, by rw [h0]; simp, fun j hj => by omega⟩
    rw [h0]
    cases a <;> rfl
  · obtain ⟨x, o, cs, rfl, hr, hl, hj⟩ := k h0
    exact ⟨cs, srcA_slice hr hl, hl, hj⟩
theorem SlE.new (hE : MonoE E) {H' : AHeap} {x n : Nat} {cl : Bool} {cs : List AV} (hr : Rd H' x 0 cs) (hn : n = xs.length) (hl : cs.length = xs.length * s) (hm : xs.length ≤ maxLen) (hj : ∀ j (hj : j < xs.length), E H' xs[j] ((cs.drop (j * s)).take s)) : SlE E s H' xs [.slice (some (x, 0)) s n cl] := by
  subst hn
  exact ⟨_, _, _, rfl, .inr rfl, hm, fun _ => ⟨x, 0, cs, rfl, hr, hl, hj⟩⟩
theorem Sl.ubD {D : Nat → Prop} {n : Nat} {cs : List AV} (h : Sl H D s v n cs) {y : Nat} (hy : ub v = some y) : D y := SVok.ubD (x := .sl s n cs) h hy
theorem Sl.slE {D : Nat → Prop} {n : Nat} {cs : List AV} (h : Sl H D s v n cs) (hn : n = xs.length) (hm : xs.length ≤ maxLen) (hj : ∀ j (hj : j < xs.length), E H xs[j] ((cs.drop (j * s)).take s)) : SlE E s H xs [v] := by
  subst hn
  rcases h with ⟨⟨s0, rfl⟩, -, h0⟩ | ⟨x, i, cl, rfl, -, hl, hr, -⟩
  · exact ⟨none, s0, true, by rw [h0], .inl rfl, hm, fun h => absurd h0 h⟩
  · exact ⟨_, _, _, rfl, .inr rfl, hm, fun _ => ⟨x, i, cs, rfl, hr, hl, hj⟩⟩
theorem Arr.newRow (H : AHeap) (l : List AV) (P : Nat → Prop) : Arr (H.newRow l) H.next l P := ⟨by simp [AHeap.newRow, next_new], ofL l 0 .nil, [], by rw [AHeap.newRow, get_new, if_pos rfl], fun j v hj => by
  have := (List.getElem?_eq_some_iff.1 hj).1
  rw [get_ofL, if_pos (by omega), Nat.sub_zero, hj], by simp⟩
theorem c_clone {f bytes : Nat} (hf : MN.fs f = some (gClone s bytes)) (hE : MonoE E) (h : SlE E s H xs [v]) (hb : xs.length * bytes ≤ 140737488355328) (hb0 : 0 < bytes) :
    CW MN f [v] H fun u H' => Sm H H' ∧ SlE E s H' xs [u] ∧ OwS H.next H' s xs.length u := by
  refine CW_of hf ?_
  obtain ⟨a, s0, cl, rfl, hs0⟩ := h.shape
  unfold gClone
  cases a with
  | none =>
    have h0 : xs.length = 0 := by
      by_cases h0 : xs.length = 0
      · exact h0
      · obtain ⟨x, o, l, e, -⟩ := h.at (i := 0) (by omega)
        cases e
    have e1 : eqA (.sc .slice) (.slice none s0 xs.length cl) (.slice none 1 0 true) = some true := rfl
    simp -implicitDefEqProofs only [e1, go_sem]
    have hx : xs = [] := List.eq_nil_of_length_eq_zero h0
    subst hx
    exact ⟨Chg.refl H, ⟨none, 1, true, rfl, .inl rfl, Nat.zero_le _, fun h => absurd rfl h⟩, .inl ⟨rfl, 1, true, rfl⟩⟩
  | some p =>
    obtain ⟨x, o⟩ := p
    obtain rfl : s0 = s := by rcases hs0 with e | e; cases e; exact e
    have e1 : eqA (.sc .slice) (.slice (some (x, o)) s0 xs.length cl) (.slice none 1 0 true) = some false := rfl
    have s1 := Chg.newRow H []
    have h1 := hE.sl _ _ _ _ h s1
    obtain ⟨cs, q1, q2, q3⟩ := h1.row hE
    have hn1 : (H.newRow []).next = H.next + 1 := rfl
    have hld : loadA (H.newRow []) H.next 0 0 = some [] := (Rd.newRow H []).load rfl
    have r0 := Rd.newRow H []
    have a0 := Arr.newRow H [] fun _ => False
    generalize eH1 : H.newRow [] = H1 at s1 h1 q1 q3 hn1 hld r0 a0
    by_cases h0 : xs.length = 0
    · have ap : appendF H1 s0 bytes false (.slice (some (H.next, 0)) s0 0 true) (.slice (some (x, o)) s0 xs.length cl) = some (.slice (some (H.next, 0)) s0 0 true, H1) := by
        rw [h0] at q1
        unfold appendF appendA
        simp only [h0, q1]
        rfl
      simp -implicitDefEqProofs only [e1, eH1, ap, Bool.false_eq_true, go_sem]
      have hx : xs = [] := List.eq_nil_of_length_eq_zero h0
      subst hx
      exact ⟨s1, ⟨_, _, _, rfl, .inr rfl, Nat.zero_le _, fun h => absurd rfl h⟩, .inr ⟨H.next, true, [], rfl, Nat.le_refl _, by simp, a0⟩⟩
    · have hm : xs.length ≤ 140737488355328 := Nat.le_trans (Nat.le_mul_of_pos_right _ hb0) hb
      have ap : appendF H1 s0 bytes false (.slice (some (H.next, 0)) s0 0 true) (.slice (some (x, o)) s0 xs.length cl) = some (.slice (some (H1.next, 0)) s0 xs.length false, H1.newRow cs) := by
        have e2 : xs.length.beq 0 = false := nbf h0
        have e3 : (xs.length * bytes).ble 140737488355328 = true := Nat.ble_eq_true_of_le hb
        have e4 : xs.length.ble 140737488355328 = true := Nat.ble_eq_true_of_le hm
        have e5 : s0.beq s0 = true := Nat.beq_refl _
        unfold appendF appendA
        simp only [q1, e2, e3, e4, e5, Nat.zero_mul, hld, Bool.and_self, cond_true, cond_false, List.nil_append, Nat.zero_add]
      have s2 := Chg.newRow H1 cs
      simp -implicitDefEqProofs only [e1, eH1, ap, Bool.false_eq_true, go_sem]
      exact ⟨s1.trans s2, SlE.new hE (Rd.newRow H1 cs) rfl q2 (by unfold maxLen; omega) fun j hj => hE _ _ _ _ (q3 j hj) s2, .inr ⟨H1.next, false, cs, rfl, by omega, q2, Arr.newRow H1 cs _⟩⟩
theorem c_clip {f : Nat} (hf : MN.fs f = some (gClip s)) (h : SlE E s H xs [v]) : CW MN f [v] H fun u H' => H' = H ∧ SlE E s H xs [u] ∧ ∀ n0, OwS n0 H s xs.length v → OwS n0 H s xs.length u := by
  refine CW_of hf ?_
  obtain ⟨a, s0, cl, rfl, hs0⟩ := h.shape
  unfold gClip
  have b1 : ∀ d, boundA (some (.int .i64 (xs.length : Int))) 0 xs.length d = some xs.length := fun d => bnd (Nat.le_refl _)
  have b2 : boundA none 0 xs.length 0 = some 0 := rfl
  cases a with
  | none =>
    have h0 : xs.length = 0 := by
      by_cases h0 : xs.length = 0
      · exact h0
      · obtain ⟨x, o, l, e, -⟩ := h.at (i := 0) (by omega)
        cases e
    have e1 : slA 0 0 s xs.length cl none (some (.int .i64 (xs.length : Int))) (some (.int .i64 (xs.length : Int))) = some (.slice (some (0, 0)) s xs.length true) := by
      simp only [slA, b1, b2, Option.isSome_some, Option.isNone_some, Bool.and_false, cond_false, cond_true, Nat.zero_mul, Nat.add_zero, Nat.sub_zero, Nat.beq_refl]
    simp -implicitDefEqProofs only [e1, go_sem]
    have hx : xs = [] := List.eq_nil_of_length_eq_zero h0
    subst hx
    exact ⟨⟨none, s, true, rfl, .inl rfl, Nat.zero_le _, fun h => absurd rfl h⟩, fun n0 _ => .inl ⟨rfl, s, true, rfl⟩⟩
  | some p =>
    obtain ⟨x, o⟩ := p
    obtain rfl : s0 = s := by rcases hs0 with e | e; cases e; exact e
    have e1 : slA x o s0 xs.length cl none (some (.int .i64 (xs.length : Int))) (some (.int .i64 (xs.length : Int))) = some (.slice (some (x, o)) s0 xs.length true) := by
      simp only [slA, b1, b2, Option.isSome_some, Option.isNone_some, Bool.and_false, cond_false, cond_true, Nat.zero_mul, Nat.add_zero, Nat.sub_zero, Nat.beq_refl]
    simp -implicitDefEqProofs only [e1, Nat.beq_refl, go_sem]
    obtain ⟨a', s0', cl', e, k0, k1, k⟩ := h
    cases e
    refine ⟨⟨_, _, _, rfl, .inr rfl, k1, k⟩, fun n0 ho => ?_⟩
    rcases ho with ⟨-, s1, c1, e⟩ | ⟨y, c1, cs, e, h1, h2, h3⟩
    · cases e
    · cases e
      exact .inr ⟨x, true, cs, rfl, h1, h2, h3⟩
end
set_option maxHeartbeats 4000000
def ofP (n : Int) : Int := if n < 0 ∨ 62 < n then -1 else if n ≤ 2 then 0 else if n ≤ 6 then 1 else if n ≤ 14 then 2 else if n ≤ 30 then 3 else 4
def fitP (k : Int) : Int := if k = 0 then 4 else if k = 1 then 8 else if k = 2 then 16 else if k = 3 then 32 else if k = 4 then 64 else 0
theorem shl4 {k : Int} (h : k = 0 ∨ k = 1 ∨ k = 2 ∨ k = 3 ∨ k = 4) {j : IntKind} : binA .shl (.sc .int) (.int .i64 4) (.int j k) = some (.int .i64 (fitP k)) := by
  rcases h with rfl | rfl | rfl | rfl | rfl <;> rfl
theorem c_fitWords {H : AHeap} {k : Int} (h : k = -1 ∨ k = 0 ∨ k = 1 ∨ k = 2 ∨ k = 3 ∨ k = 4) : CW MN 40 [.int .i64 k] H fun w H' => w = .int .i64 (fitP k) ∧ H' = H := by
  refine CW_of (fn := af40) rfl ?_
  dsimp only [af40, qm, q, qG, qn, qi, qb, qB, qk, qc, qo, qg, qv, qr]
  rcases h with h | h
  · subst h
    simp -implicitDefEqProofs only [go_sem]
    rfl
  · have e := shl4 h (j := .i64)
    have h0 : ¬ k < 0 := by omega
    have h5 : ¬ 5 ≤ k := by omega
    simp -implicitDefEqProofs only [h0, h5, ↓e, Bool.false_eq_true, go_sem]
theorem c_fitOf {H : AHeap} {n : Int} (hn : n ≤ 9223372036854775807) : CW MN 43 [.int .i64 n] H fun w H' => w = .int .i64 (ofP n) ∧ H' = H := by
  refine CW_of (fn := af43) rfl ?_
  dsimp only [af43, qm, q, qG, qn, qi, qb, qB, qk, qc, qo, qg, qv, qr]
  by_cases h0 : n < 0
  · have e : ofP n = -1 := by unfold ofP; rw [if_pos (.inl h0)]
    simp -implicitDefEqProofs only [h0, e, go_sem]
  · by_cases h1 : 62 < n
    · have e : ofP n = -1 := by unfold ofP; rw [if_pos (.inr h1)]
      simp -implicitDefEqProofs only [h0, h1, e, Bool.false_eq_true, go_sem]
    · have hw2 : IntKind.i64.wrap (n + 2) = n + 2 := wrap64 (by omega) (by omega)
      simp -implicitDefEqProofs only [h0, h1, Bool.false_eq_true, go_sem]
      refine WP_mono (Q := fun ex fr H' => ex = .exit 0 ∧ fr.get 3 = some (.int .i64 (ofP n)) ∧ H' = H) ?_ (WP_loop (fun q fr H' => ∃ k : Int, (q : Int) = 4 - k ∧ (k = 0 ∨ k = 1 ∨ k = 2 ∨ k = 3 ∨ k = 4) ∧ (k ≤ ofP n) ∧ fr.get 0 = some (.int .i64 n) ∧ fr.get 3 = some (.int .i64 k) ∧ H' = H) 4 ?_ ?_)
      rotate_left
      · refine ⟨0, rfl, by omega, ?_, ?_⟩
        · unfold ofP; repeat' split
          all_goals omega
        simp -implicitDefEqProofs only [go_sem]
      · rintro q fr H1 ⟨k, hq, hk, hko, g0, g3, rfl⟩
        simp -implicitDefEqProofs only [g0, g3, go_sem]
        refine CW.mono (c_fitWords (.inr hk)) ?_
        rintro w H2 ⟨rfl, rfl⟩
        have hw1 : IntKind.i64.wrap (k + 1) = k + 1 := wrap64 (by omega) (by omega)
        by_cases hlt : fitP k < n + 2
        · simp -implicitDefEqProofs only [g0, g3, hw2, hlt, hw1, go_sem]
          refine ⟨(3 - k).toNat, ?_, k + 1, ?_, ?_, ?_, rfl⟩
          all_goals
            revert hlt hko
            unfold ofP fitP
            rcases hk with rfl | rfl | rfl | rfl | rfl <;> simp <;> (try split) <;> omega
        · simp -implicitDefEqProofs only [g0, g3, hw2, hlt, Bool.false_eq_true, go_sem]
          have : k = ofP n := by
            revert hlt hko
            unfold ofP fitP
            rcases hk with rfl | rfl | rfl | rfl | rfl <;> simp <;> (repeat' split) <;> omega
          rw [← this]
      rintro ex fr H1 ⟨rfl, g3, rfl⟩
      simp -implicitDefEqProofs only [g3, go_sem]
set_option maxHeartbeats 4000000
end Go.Proofs.YtaihjlemofgokaaGreat.AA
