/- The reference's table, mills, fields. -/
import Derived.Test.YtaihjlemofgokaaGreatKHeaE
set_option linter.unusedSimpArgs false
set_option linter.unusedVariables false
namespace Go.Proofs.YtaihjlemofgokaaGreat.AA
open Go Go.RowKit
attribute [local go_sem ↓] WP_seq WP_skip WP_region WP_dregion WP_cond WP_block WP_exit WP_ret OW_nil OW_cons DW_nil DW_cons XW_call reduceIte OW_guard DW_guard
attribute [local go_sem] XW exA KO_eq OptK_some EvK_some GW2_true GW2_false KS_normal KS_ret KS_exit KB_normal KB_ret KB_exit CP2_bool RP_ret RP_normal putA_some putA_none ev_t ev_c evs evo wantA initA resA Tr.get_set vl chkOk cond_true cond_false Nat.add_zero Nat.mul_one Nat.one_mul Nat.zero_add Nat.zero_mul aggOf pInt binA unA intA beq_true beq_false Bool.not_true Bool.not_false Bool.not_eq_true and_self and_true true_and reduceIte Nat.reduceEqDiff Nat.succ_ne_self Nat.reduceAdd Nat.reduceMul Nat.reduceSub Nat.reduceBEq Nat.reduceLT Nat.reduceLeDiff Int.cast_ofNat_Int Int.reduceToNat Int.reduceLT Int.reduceLE Int.reduceGE Int.reduceGT Int.reduceEq Int.reduceNe Int.reduceAdd Int.reduceSub Int.reduceNeg decide_true decide_false Int.toNat_natCast reduceCtorEq List.nil_append List.cons_append AV.boxy AV.cells List.length_cons List.length_nil Nat.beq_refl AOp.cl KDW_0 KDW_1 KDW_2 OWskip_eq DWskip_eq fillA setAt DChk DAt stepA ble_dec beq_dec Bool.and_self Bool.and_true Bool.true_and Bool.and_false Bool.false_and List.take_succ_cons List.take_zero List.drop_succ_cons List.drop_zero List.take_nil List.drop_nil List.append_nil eqAV eqAVL BEq.rfl sameS Option.map Option.isNone wrap64 gt_iff_lt ge_iff_le Int.lt_irrefl Int.le_refl
set_option maxRecDepth 100000
set_option maxHeartbeats 2000000
attribute [local irreducible] Tr.set
def rc (g : TG) (i : Nat) : AV := if i < 1024 then .bool (g i).isSome else if i % 2 = 0 then .int .i64 ((g (((i - 1024) / 2 : Nat) : Int)).getD (0, 0)).1 else .int .i64 ((g (((i - 1024) / 2 : Nat) : Int)).getD (0, 0)).2
def rcx (xt : Nat → AV) (g : TG) (i : Nat) : AV := if i < 3072 then rc g i else xt i
theorem rcx_lt {xt : Nat → AV} {g : TG} {i : Nat} (h : i < 3072) : rcx xt g i = rc g i := if_pos h
theorem rcx_ge {xt : Nat → AV} {g : TG} {i : Nat} (h : ¬ i < 3072) : rcx xt g i = xt i := if_neg h
structure RefR (H : AHeap) (b : Nat) (xt : Nat → AV) (g : TG) : Prop where
  blk : Blk H b 3078 (rcx xt g)
  inj : Inj g
  dom : ∀ i p, g i = some p → 4 ≤ i ∧ i < 1024
theorem RefR.keep {H H' : AHeap} {b : Nat} {xt : Nat → AV} {g : TG} (h : RefR H b xt g) (hl : H.next ≤ H'.next) (hb : H'.get b = H.get b) : RefR H' b xt g := ⟨h.blk.keep' hl hb, h.inj, h.dom⟩
theorem RefR.ldIn {H : AHeap} {b : Nat} {xt : Nat → AV} {g : TG} (h : RefR H b xt g) {n : Int} (h0 : 0 ≤ n) (h1 : n < 1024) : loadA H b n.toNat 1 = some [.bool (g n).isSome] := by
  have := h.blk.load (i := n.toNat) (by omega)
  rw [this, rcx_lt (by omega), rc, if_pos (by omega), Int.toNat_of_nonneg h0]
theorem rc_at {g : TG} {n : Int} (h0 : 0 ≤ n) : rc g (1024 + n.toNat * 2) = .int .i64 ((g n).getD (0, 0)).1 ∧ rc g (1024 + n.toNat * 2 + 1) = .int .i64 ((g n).getD (0, 0)).2 := by
  have e1 : (1024 + n.toNat * 2 - 1024) / 2 = n.toNat := by omega
  have e2 : (1024 + n.toNat * 2 + 1 - 1024) / 2 = n.toNat := by omega
  unfold rc
  rw [if_neg (by omega), if_pos (by omega), if_neg (by omega), if_neg (by omega), e1, e2, Int.toNat_of_nonneg h0]
  exact ⟨rfl, rfl⟩
theorem RefR.ldAt {H : AHeap} {b : Nat} {xt : Nat → AV} {g : TG} (h : RefR H b xt g) {n : Int} (h0 : 0 ≤ n) (h1 : n < 1024) : loadA H b (1024 + n.toNat * 2) 2 = some [.int .i64 ((g n).getD (0, 0)).1, .int .i64 ((g n).getD (0, 0)).2] := by
  rw [h.blk.load2 (i := 1024 + n.toNat * 2) (by omega), rcx_lt (by omega), rcx_lt (by omega), (rc_at h0).1, (rc_at h0).2]
theorem binA_two {a b c d : Int} : binA .eql (.parts [(0, 1, .sc .int), (1, 1, .sc .int)]) (.agg [.int .i64 a, .int .i64 b]) (.agg [.int .i64 c, .int .i64 d]) = some (.bool (decide ((a, b) = (c, d)))) := by
  have := keyed_two.eq (a, b) (c, d)
  simp only [pl] at this
  simp only [binA, this, Option.map]
theorem c_Has {H : AHeap} {b : Nat} {xt : Nat → AV} {g : TG} (h : RefR H b xt g) (n : Int) : CW MN 88 [.ptr (some (b, 0)), .int .i64 n] H fun v H' => v = .bool (g n).isSome ∧ H' = H := by
  refine CW_of (fn := af88) rfl ?_
  dsimp only [af88, qm, q, qG, qn, qi, qb, qB, qk, qc, qo, qg, qv, qr]
  have hno : ¬ (0 ≤ n ∧ n < 1024) → (g n).isSome = false := fun h' => by
    cases hg : g n with
    | none => rfl
    | some p => have := h.dom n p hg; omega
  by_cases h0 : 0 ≤ n
  · by_cases h1 : n < 1024
    · simp -implicitDefEqProofs only [h0, h1, h.ldIn h0 h1, Bool.false_eq_true, eqA, eqD, go_sem]
    · rw [hno (by omega)]
      simp -implicitDefEqProofs only [h0, h1, Bool.false_eq_true, eqA, eqD, go_sem]
  · rw [hno (by omega)]
    simp -implicitDefEqProofs only [h0, Bool.false_eq_true, eqA, eqD, go_sem]
theorem c_OfR {H : AHeap} {b : Nat} {xt : Nat → AV} {g : TG} (h : RefR H b xt g) (x y : Int) : CW MN 72 [.ptr (some (b, 0)), .agg [.int .i64 x, .int .i64 y]] H fun v H' => v = .tuple [.int .i64 ((ofG g (x, y)).getD 0), .bool (ofG g (x, y)).isSome] ∧ Chg H H' none := by
  refine CW_of (fn := af72) rfl ?_
  dsimp only [af72, qm, q, qG, qn, qi, qb, qB, qk, qc, qo, qg, qv, qr]
  have s1 := Chg.newRow H [.int .i64 x, .int .i64 y]
  have b1 := Rd.newRow H [.int .i64 x, .int .i64 y]
  generalize eH1 : H.newRow [.int .i64 x, .int .i64 y] = H1 at s1 b1
  have l1 := b1.load (n := 2) rfl
  have h1 := h.keep s1.1 (s1.gt h.blk.1)
  simp -implicitDefEqProofs only [eH1, eqA, eqD, go_sem]
  refine WP_loop (fun n fr H' => ∃ i : Int, n = (1024 - i).toNat ∧ 4 ≤ i ∧ i ≤ 1024 ∧ (∀ j, 4 ≤ j → j < i → g j ≠ some (x, y)) ∧ fr.get 0 = some (.ptr (some (b, 0))) ∧ fr.get 3 = some (.ptr (some (H.next, 0))) ∧ fr.get 6 = some (.int .i64 i) ∧ H' = H1) 1020 ?_ ?_
  · refine ⟨4, rfl, by omega, by omega, fun j h1 h2 => by omega, ?_⟩
    simp -implicitDefEqProofs only [eqA, eqD, go_sem]
  · rintro n fr H2 ⟨i, hn, hi1, hi2, hlo, g0, g3, g6, rfl⟩
    by_cases hlt : i < 1024
    · have i0 : 0 ≤ i := by omega
      have a1 := h1.ldIn i0 hlt
      have a2 := h1.ldAt i0 hlt
      have hw : IntKind.i64.wrap (i + 1) = i + 1 := wrap64 (by omega) (by omega)
      have nxt : g i ≠ some (x, y) → ∃ m, m < n ∧ ∃ i', m = (1024 - i').toNat ∧ 4 ≤ i' ∧ i' ≤ 1024 ∧ (∀ j, 4 ≤ j → j < i' → g j ≠ some (x, y)) ∧ i + 1 = i' := fun hne => by
        refine ⟨(1024 - (i + 1)).toNat, by omega, i + 1, rfl, by omega, by omega, fun j h1 h2 => ?_, rfl⟩
        by_cases hj : j = i
        · subst hj; exact hne
        · exact hlo j h1 (by omega)
      cases hg : g i with
      | none =>
        rw [hg] at a1 a2 nxt
        obtain ⟨m, hm, i', e1, e2, e3, e4, e5⟩ := nxt (by simp)
        simp -implicitDefEqProofs only [g0, g3, g6, i0, hlt, a1, hw, Option.isSome_none, Bool.false_eq_true, eqA, eqD, go_sem]
        exact ⟨m, hm, i', e1, e2, e3, e4, by rw [e5]⟩
      | some p =>
        rw [hg] at a1 a2 nxt
        simp -implicitDefEqProofs only [Option.getD_some] at a2
        by_cases hp : p = (x, y)
        · have hp' : (p.1, p.2) = (x, y) := hp
          subst hp
          have ho := (ofG_iff h.inj (x, y) i).2 hg
          rw [ho]
          simp -implicitDefEqProofs only [g0, g3, g6, i0, hlt, l1, a1, a2, Option.isSome_some, ↓binA_two, eqA, eqD, go_sem]
          exact ⟨rfl, s1⟩
        · have hp' : ¬ (p.1, p.2) = (x, y) := hp
          obtain ⟨m, hm, i', e1, e2, e3, e4, e5⟩ := nxt (by simpa using hp)
          simp -implicitDefEqProofs only [g0, g3, g6, i0, hlt, l1, a1, a2, hp', hw, Option.isSome_some, ↓binA_two, Bool.false_eq_true, eqA, eqD, go_sem]
          exact ⟨m, hm, i', e1, e2, e3, e4, by rw [e5]⟩
    · have hno : ofG g (x, y) = none := by
        cases ho : ofG g (x, y) with
        | none => rfl
        | some j =>
          have hj := (ofG_iff h.inj (x, y) j).1 ho
          have := h.dom j _ hj
          exact absurd hj (hlo j this.1 (by omega))
      rw [hno]
      simp -implicitDefEqProofs only [g0, g3, g6, hlt, Bool.false_eq_true, eqA, eqD, go_sem]
      exact ⟨rfl, s1⟩
set_option maxHeartbeats 2000000
theorem updL_in {f : Nat → AV} {i : Nat} {vs : List AV} {j : Nat} {v : AV} (h : i ≤ j) (e : vs[j - i]? = some v) : updL f i vs j = v := by
  unfold updL; rw [if_pos h, e]
theorem updL_out {f : Nat → AV} {i : Nat} {vs : List AV} {j : Nat} (h : j < i ∨ i + vs.length ≤ j) : updL f i vs j = f j := by
  unfold updL
  split
  · have : vs[j - i]? = none := List.getElem?_eq_none (by omega)
    rw [this]
  · rfl
theorem rc_set {g : TG} {n : Int} (h0 : 0 ≤ n) (h1 : n < 1024) (v : Option Pl) (i : Nat) : updL (updL (rc g) n.toNat [.bool v.isSome]) (1024 + n.toNat * 2) [.int .i64 (v.getD (0, 0)).1, .int .i64 (v.getD (0, 0)).2] i = rc (fset g n v) i := by
  by_cases c1 : i < 1024
  · rw [updL_out (by simp; omega)]
    by_cases c2 : i = n.toNat
    · subst c2
      rw [updL_in (v := .bool v.isSome) (Nat.le_refl _) (by simp)]
      unfold rc
      rw [if_pos (by omega), Int.toNat_of_nonneg h0, fset_same]
    · rw [updL_out (by simp; omega)]
      unfold rc
      rw [if_pos c1, if_pos c1, fset_ne (by omega)]
  · by_cases c2 : (i - 1024) / 2 = n.toNat
    · by_cases c3 : i % 2 = 0
      · rw [updL_in (v := .int .i64 (v.getD (0, 0)).1) (by omega) (by rw [show i - (1024 + n.toNat * 2) = 0 by omega]; rfl)]
        unfold rc
        rw [if_neg c1, if_pos c3, c2, Int.toNat_of_nonneg h0, fset_same]
      · rw [updL_in (v := .int .i64 (v.getD (0, 0)).2) (by omega) (by rw [show i - (1024 + n.toNat * 2) = 1 by omega]; rfl)]
        unfold rc
        rw [if_neg c1, if_neg c3, c2, Int.toNat_of_nonneg h0, fset_same]
    · rw [updL_out (by simp; omega), updL_out (by simp; omega)]
      unfold rc
      rw [if_neg c1, if_neg c1, fset_ne (by omega)]
theorem rc_swap {g : TG} {a c : Int} {p q : Pl} (ha : g a = some p) (hc : g c = some q) (a0 : 0 ≤ a) (a1 : a < 1024) (c0 : 0 ≤ c) (c1 : c < 1024) (i : Nat) : updL (updL (rc g) (1024 + a.toNat * 2) [.int .i64 q.1, .int .i64 q.2]) (1024 + c.toNat * 2) [.int .i64 p.1, .int .i64 p.2] i = rc (swG g a c) i := by
  have hs : swG g a c = fset (fset g a (some q)) c (some p) := by unfold swG; rw [ha, hc]
  rw [hs]
  by_cases b1 : i < 1024
  · rw [updL_out (by simp; omega), updL_out (by simp; omega)]
    unfold rc
    rw [if_pos b1, if_pos b1]
    by_cases e1 : (i : Int) = c
    · rw [e1, fset_same, hc]; rfl
    · rw [fset_ne e1]
      by_cases e2 : (i : Int) = a
      · rw [e2, fset_same, ha]; rfl
      · rw [fset_ne e2]
  · by_cases e1 : (i - 1024) / 2 = c.toNat
    · by_cases c3 : i % 2 = 0
      · rw [updL_in (v := .int .i64 p.1) (by omega) (by rw [show i - (1024 + c.toNat * 2) = 0 by omega]; rfl)]
        unfold rc
        rw [if_neg b1, if_pos c3, e1, Int.toNat_of_nonneg c0, fset_same]; rfl
      · rw [updL_in (v := .int .i64 p.2) (by omega) (by rw [show i - (1024 + c.toNat * 2) = 1 by omega]; rfl)]
        unfold rc
        rw [if_neg b1, if_neg c3, e1, Int.toNat_of_nonneg c0, fset_same]; rfl
    · rw [updL_out (by simp; omega)]
      by_cases e2 : (i - 1024) / 2 = a.toNat
      · by_cases c3 : i % 2 = 0
        · rw [updL_in (v := .int .i64 q.1) (by omega) (by rw [show i - (1024 + a.toNat * 2) = 0 by omega]; rfl)]
          unfold rc
          rw [if_neg b1, if_pos c3, e2, Int.toNat_of_nonneg a0, fset_ne (by omega), fset_same]; rfl
        · rw [updL_in (v := .int .i64 q.2) (by omega) (by rw [show i - (1024 + a.toNat * 2) = 1 by omega]; rfl)]
          unfold rc
          rw [if_neg b1, if_neg c3, e2, Int.toNat_of_nonneg a0, fset_ne (by omega), fset_same]; rfl
      · rw [updL_out (by simp; omega)]
        unfold rc
        rw [if_neg b1, if_neg b1, fset_ne (by omega), fset_ne (by omega)]
theorem updL_rcx {xt : Nat → AV} {g g' : TG} {i j : Nat} {vs ws : List AV} (hi : i + vs.length ≤ 3072) (hj : j + ws.length ≤ 3072) (h : ∀ k, updL (updL (rc g) i vs) j ws k = rc g' k) (k : Nat) : updL (updL (rcx xt g) i vs) j ws k = rcx xt g' k := by
  by_cases hk : k < 3072
  · rw [rcx_lt hk, ← h k]
    unfold updL
    rw [rcx_lt hk]
  · rw [rcx_ge hk, updL_out (.inr (by omega)), updL_out (.inr (by omega)), rcx_ge hk]
theorem RefR.wr {H : AHeap} {b : Nat} {xt : Nat → AV} {g : TG} (h : RefR H b xt g) {n : Int} (h0 : 4 ≤ n) (h1 : n < 1024) (v : Option Pl) (hi : Inj (fset g n v)) : ∃ H1 H2, storeA H b n.toNat [.bool v.isSome] = some H1 ∧ storeA H1 b (1024 + n.toNat * 2) [.int .i64 (v.getD (0, 0)).1, .int .i64 (v.getD (0, 0)).2] = some H2 ∧ RefR H2 b xt (fset g n v) ∧ Ch b H H1 ∧ Ch b H H2 := by
  obtain ⟨H1, a1, a2, a3⟩ := h.blk.stores (i := n.toNat) (vs := [.bool v.isSome]) (by simp; omega)
  obtain ⟨H2, b1, b2, b3⟩ := a2.stores (i := 1024 + n.toNat * 2) (vs := [.int .i64 (v.getD (0, 0)).1, .int .i64 (v.getD (0, 0)).2]) (by simp; omega)
  refine ⟨H1, H2, a1, b1, ⟨b2.congr fun i _ => updL_rcx (by simp; omega) (by simp; omega) (rc_set (by omega) h1 v) i, hi, fun i p hp => ?_⟩, a3, a3.trans b3⟩
  by_cases e : i = n
  · subst e; exact ⟨h0, h1⟩
  · rw [fset_ne e] at hp; exact h.dom i p hp
theorem RefR.sw {H : AHeap} {b : Nat} {xt : Nat → AV} {g : TG} (h : RefR H b xt g) {a c : Int} {p q : Pl} (ha : g a = some p) (hc : g c = some q) : ∃ H1 H2, storeA H b (1024 + a.toNat * 2) [.int .i64 q.1, .int .i64 q.2] = some H1 ∧ storeA H1 b (1024 + c.toNat * 2) [.int .i64 p.1, .int .i64 p.2] = some H2 ∧ RefR H2 b xt (swG g a c) ∧ Ch b H H1 ∧ Ch b H H2 := by
  have da := h.dom a p ha
  have dc := h.dom c q hc
  obtain ⟨H1, a1, a2, a3⟩ := h.blk.stores (i := 1024 + a.toNat * 2) (vs := [.int .i64 q.1, .int .i64 q.2]) (by simp; omega)
  obtain ⟨H2, b1, b2, b3⟩ := a2.stores (i := 1024 + c.toNat * 2) (vs := [.int .i64 p.1, .int .i64 p.2]) (by simp; omega)
  refine ⟨H1, H2, a1, b1, ⟨b2.congr fun i _ => updL_rcx (by simp; omega) (by simp; omega) (rc_swap ha hc (by omega) da.2 (by omega) dc.2) i, inj_swap h.inj a c, fun i r hr => ?_⟩, a3, a3.trans b3⟩
  have hs : swG g a c = fset (fset g a (some q)) c (some p) := by unfold swG; rw [ha, hc]
  rw [hs] at hr
  by_cases e1 : i = c
  · subst e1; exact dc
  · rw [fset_ne e1] at hr
    by_cases e2 : i = a
    · subst e2; exact da
    · rw [fset_ne e2] at hr; exact h.dom i r hr
abbrev D1 (b : Nat) : Nat → Prop := fun x => x = b
theorem c_GiveR {H : AHeap} {b : Nat} {xt : Nat → AV} {g : TG} (h : RefR H b xt g) (n : Int) : CW MN 73 [.ptr (some (b, 0)), .int .i64 n] H fun v H' => v = .bool (g n).isSome ∧ RefR H' b xt (fset g n none) ∧ Evo (D1 b) H H' := by
  refine CW_of (fn := af73) rfl ?_
  dsimp only [af73, qm, q, qG, qn, qi, qb, qB, qk, qc, qo, qg, qv, qr]
  simp -implicitDefEqProofs only [eqA, eqD, go_sem]
  refine CW.mono (c_Has h n) ?_
  rintro v H' ⟨rfl, rfl⟩
  cases hg : g n with
  | none =>
    simp -implicitDefEqProofs only [Option.isSome_none, Bool.false_eq_true, eqA, eqD, go_sem]
    rw [fset_none hg]
    exact ⟨h, Evo.refl _ _⟩
  | some p =>
    have hd := h.dom n p hg
    have n0 : 0 ≤ n := by omega
    have n1 := hd.2
    obtain ⟨H1, H2, a1, a2, a3, a4, a5⟩ := h.wr hd.1 hd.2 none (inj_none h.inj n)
    simp -implicitDefEqProofs only [Option.getD_none, Option.isSome_none] at a1 a2
    simp -implicitDefEqProofs only [Option.isSome_some, n0, n1, a1, a2, eqA, eqD, go_sem]
    exact ⟨a3, Evo.of_ch a5 rfl⟩
theorem c_SwapR {H : AHeap} {b : Nat} {xt : Nat → AV} {g : TG} (h : RefR H b xt g) (x y : Int) : CW MN 61 [.ptr (some (b, 0)), .int .i64 x, .int .i64 y] H fun v H' => v = .bool ((g x).isSome && (g y).isSome) ∧ RefR H' b xt (swG g x y) ∧ Evo (D1 b) H H' := by
  refine CW_of (fn := af61) rfl ?_
  dsimp only [af61, qm, q, qG, qn, qi, qb, qB, qk, qc, qo, qg, qv, qr]
  simp -implicitDefEqProofs only [eqA, eqD, go_sem]
  refine CW.mono (c_Has h x) ?_
  rintro v H' ⟨rfl, rfl⟩
  cases hx : g x with
  | none =>
    have hs : swG g x y = g := by unfold swG; rw [hx]
    rw [hs]
    simp -implicitDefEqProofs only [Option.isSome_none, Bool.false_eq_true, Bool.not_false, eqA, eqD, go_sem]
    exact ⟨h, Evo.refl _ _⟩
  | some p =>
    simp -implicitDefEqProofs only [Option.isSome_some, Bool.false_eq_true, eqA, eqD, go_sem]
    refine CW.mono (c_Has h y) ?_
    rintro v H' ⟨rfl, rfl⟩
    cases hy : g y with
    | none =>
      have hs : swG g x y = g := by unfold swG; rw [hx, hy]
      rw [hs]
      simp -implicitDefEqProofs only [Option.isSome_none, Bool.false_eq_true, Bool.not_false, eqA, eqD, go_sem]
      exact ⟨h, Evo.refl _ _⟩
    | some q =>
      have dx := h.dom x p hx
      have dy := h.dom y q hy
      have x0 : 0 ≤ x := by omega
      have y0 : 0 ≤ y := by omega
      have x1 := dx.2
      have y1 := dy.2
      obtain ⟨H1, H2, a1, a2, a3, a4, a5⟩ := h.sw hx hy
      have l1 := h.ldAt x0 x1
      have l2 := h.ldAt y0 y1
      rw [hx] at l1
      rw [hy] at l2
      simp -implicitDefEqProofs only [Option.getD_some] at l1 l2
      simp -implicitDefEqProofs only [Option.isSome_some, Bool.false_eq_true, x0, y0, x1, y1, l1, l2, a1, a2, eqA, eqD, go_sem]
      exact ⟨a3, Evo.of_ch a5 rfl⟩
theorem c_TakeR {H : AHeap} {b : Nat} {xt : Nat → AV} {g : TG} (h : RefR H b xt g) (x y : Int) : CW MN 52 [.ptr (some (b, 0)), .agg [.int .i64 x, .int .i64 y]] H fun v H' => v = .int .i64 (tk g (x, y)).1 ∧ RefR H' b xt (tk g (x, y)).2 ∧ Evo (D1 b) H H' := by
  refine CW_of (fn := af52) rfl ?_
  dsimp only [af52, qm, q, qG, qn, qi, qb, qB, qk, qc, qo, qg, qv, qr]
  have hb := h.blk.1
  have s1 := Chg.newRow H [.int .i64 x, .int .i64 y]
  have b1 := Rd.newRow H [.int .i64 x, .int .i64 y]
  have hn1 : (H.newRow [.int .i64 x, .int .i64 y]).next = H.next + 1 := rfl
  generalize eH1 : H.newRow [.int .i64 x, .int .i64 y] = H1 at s1 b1 hn1
  have l1 := b1.load (n := 2) rfl
  have h1 := h.keep s1.1 (s1.gt h.blk.1)
  simp -implicitDefEqProofs only [eH1, l1, eqA, eqD, go_sem]
  refine CW.mono (c_OfR h1 x y) ?_
  rintro v H2 ⟨rfl, s2⟩
  have s12 := s1.trans s2
  have h2 := h.keep s12.1 (s12.gt h.blk.1)
  have l2 : loadA H2 H.next 0 2 = some [.int .i64 x, .int .i64 y] := by rw [s2.ld (by omega)]; exact l1
  cases ho : ofG g (x, y) with
  | some i =>
    have ht := tk_in ⟨i, (ofG_iff h.inj (x, y) i).1 ho⟩
    rw [ht]
    simp -implicitDefEqProofs only [Option.isSome_some, at0, at1, eqA, eqD, go_sem]
    exact ⟨h2, Evo.of_sm s12⟩
  | none =>
    have hno : ∀ j, g j ≠ some (x, y) := fun j hj => by rw [(ofG_iff h.inj (x, y) j).2 hj] at ho; cases ho
    simp -implicitDefEqProofs only [Option.isSome_none, at0, at1, Bool.false_eq_true, eqA, eqD, go_sem]
    refine WP_loop (fun n fr H' => ∃ i : Int, n = (1024 - i).toNat ∧ 4 ≤ i ∧ i ≤ 1024 ∧ (∀ j, 4 ≤ j → j < i → g j ≠ none) ∧ fr.get 0 = some (.ptr (some (b, 0))) ∧ fr.get 3 = some (.ptr (some (H.next, 0))) ∧ fr.get 7 = some (.int .i64 i) ∧ H' = H2) 1020 ?_ ?_
    · refine ⟨4, rfl, by omega, by omega, fun j h1 h2 => by omega, ?_⟩
      simp -implicitDefEqProofs only [eqA, eqD, go_sem]
    · rintro n fr H3 ⟨i, hn, hi1, hi2, hlo, g0, g3, g7, rfl⟩
      by_cases hlt : i < 1024
      · have i0 : 0 ≤ i := by omega
        have a1 := h2.ldIn i0 hlt
        have hw : IntKind.i64.wrap (i + 1) = i + 1 := wrap64 (by omega) (by omega)
        cases hg : g i with
        | some p =>
          rw [hg] at a1
          simp -implicitDefEqProofs only [g0, g3, g7, i0, hlt, a1, hw, Option.isSome_some, Bool.false_eq_true, eqA, eqD, go_sem]
          refine ⟨(1024 - (i + 1)).toNat, by omega, i + 1, rfl, by omega, by omega, fun j h1 h2 => ?_, rfl⟩
          by_cases hj : j = i
          · subst hj; rw [hg]; simp
          · exact hlo j h1 (by omega)
        | none =>
          rw [hg] at a1
          have ht : tk g (x, y) = _ := tk_at hno ⟨hi1, hlt, hg, hlo⟩
          rw [ht]
          obtain ⟨H4, H5, c1, c2, c3, c4, c5⟩ := h2.wr hi1 hlt (some (x, y)) (inj_some h.inj i hno)
          simp -implicitDefEqProofs only [Option.getD_some, Option.isSome_some] at c1 c2
          have l4 : loadA H4 H.next 0 2 = some [.int .i64 x, .int .i64 y] := by rw [c4.load (by omega)]; exact l2
          have l5 : loadA H5 H.next 0 2 = some [.int .i64 x, .int .i64 y] := by rw [c5.load (by omega)]; exact l2
          simp -implicitDefEqProofs only [g0, g3, g7, i0, hlt, a1, l2, l4, l5, c1, c2, Option.isSome_none, Bool.not_false, eqA, eqD, go_sem]
          exact ⟨c3, (Evo.of_sm (D := D1 b) s12).then (Evo.of_ch (D := D1 b) c5 rfl) fun _ _ h => h⟩
      · have ht : tk g (x, y) = _ := tk_full hno fun j h1 h2 => hlo j h1 (by omega)
        rw [ht]
        simp -implicitDefEqProofs only [g0, g3, g7, hlt, Bool.false_eq_true, eqA, eqD, go_sem]
        exact ⟨h2, Evo.of_sm s12⟩
set_option maxHeartbeats 2000000
theorem c_IDsR2 {H : AHeap} {b : Nat} {xt : Nat → AV} {g : TG} (h : RefR H b xt g) : CW MN 74 [.ptr (some (b, 0))] H fun v H' => (∃ P : Nat → Prop, Sl H' P 1 v (idsI g).length (ivs (idsI g)) ∧ ∀ y, P y → H.next ≤ y) ∧ Sm H H' := by
  refine CW_of (fn := af74) rfl ?_
  dsimp only [af74, qm, q, qG, qn, qi, qb, qB, qk, qc, qo, qg, qv, qr]
  simp -implicitDefEqProofs only [eqA, eqD, go_sem]
  refine WP_loop (fun n fr H' => ∃ (i : Nat) (v : AV) (P : Nat → Prop), n = 1024 - i ∧ i ≤ 1024 ∧ fr.get 0 = some (.ptr (some (b, 0))) ∧ fr.get 3 = some v ∧ fr.get 5 = some (.int .i64 i) ∧ Chg H H' none ∧ Sl H' P 1 v (idsN g i).length (ivs (idsN g i)) ∧ ∀ y, P y → H.next ≤ y) 1024 ?_ ?_
  · refine ⟨0, .slice none 1 0 true, fun _ => False, rfl, by omega, ?_⟩
    simp -implicitDefEqProofs only [eqA, eqD, go_sem]
    exact ⟨Chg.refl H, .inl ⟨⟨1, rfl⟩, rfl, rfl⟩, by simp⟩
  · rintro n fr H1 ⟨i, v, P, hn, hi, g0, g3, g5, ch, hs, hP⟩
    by_cases hlt : i < 1024
    · have hlt' : (i : Int) < 1024 := by omega
      have i0 : (0 : Int) ≤ i := by omega
      have h1 := h.keep ch.1 (ch.gt h.blk.1)
      have a1 := h1.ldIn i0 hlt'
      rw [Int.toNat_natCast] at a1
      have hw : IntKind.i64.wrap ((i : Int) + 1) = ((i + 1 : Nat) : Int) := by rw [wrap64 (by omega) (by omega)]; omega
      have hlen := idsN_len g i
      cases hg : g (i : Int) with
      | none =>
        rw [hg] at a1
        have e1 : idsN g (i + 1) = idsN g i := by rw [idsN_succ, hg]; simp
        simp -implicitDefEqProofs only [g0, g3, g5, i0, hlt', a1, hw, Option.isSome_none, Bool.false_eq_true, eqA, eqD, go_sem]
        refine ⟨1024 - (i + 1), by omega, i + 1, v, P, rfl, by omega, rfl, rfl, ch, ?_, hP⟩
        rw [e1]; exact hs
      | some p =>
        rw [hg] at a1
        have e1 : idsN g (i + 1) = idsN g i ++ [(i : Int)] := by rw [idsN_succ, hg]; simp
        have ap : ∃ H3, appendF (H1.newRow [.int .i64 i]) 1 8 false v (.slice (some (H1.next, 0)) 1 1 true) = some (.slice (some (H1.next + 1, 0)) 1 ((idsN g i).length + 1) false, H3) ∧ Chg H H3 none ∧ Sl H3 (fun y => y = H1.next + 1) 1 (.slice (some (H1.next + 1, 0)) 1 ((idsN g i).length + 1) false) ((idsN g i).length + 1) (ivs (idsN g i) ++ [.int .i64 i]) := by
          obtain ⟨H3, e1, e2, e3, e4⟩ := hs.push1 (bytes := 8) (ys := [.int .i64 i]) rfl (by omega) (by omega)
          exact ⟨H3, e1, ch.weak e3 fun z hz => hP z (SVok.ubD (x := .sl 1 (idsN g i).length (ivs (idsN g i))) hs hz), e4⟩
        simp -implicitDefEqProofs only [g0, g3, g5, i0, hlt', a1, hw, Option.isSome_some, eqA, eqD, go_sem]
        refine optK_of ap ?_
        rintro H3 ⟨ch3, hs3⟩
        simp -implicitDefEqProofs only [g0, g3, g5, i0, hlt', a1, hw, eqA, eqD, go_sem]
        refine ⟨1024 - (i + 1), by omega, i + 1, _, fun y => y = H1.next + 1, rfl, by omega, rfl, rfl, ch3, ?_, fun y hy => by have := ch.1; omega⟩
        rw [e1, List.length_append]
        simpa [ivs, iv] using hs3
    · obtain rfl : i = 1024 := by omega
      have hlt' : ¬ ((1024 : Nat) : Int) < 1024 := by omega
      simp -implicitDefEqProofs only [g0, g3, g5, hlt', Bool.false_eq_true, eqA, eqD, go_sem]
      exact ⟨⟨P, hs, hP⟩, ch⟩
set_option maxHeartbeats 4000000
theorem c_rfitWords {H : AHeap} {k : Int} (h : k = -1 ∨ k = 0 ∨ k = 1 ∨ k = 2 ∨ k = 3 ∨ k = 4) : CW MN 68 [.int .i64 k] H fun w H' => w = .int .i64 (fitP k) ∧ H' = H := by
  refine CW_of (fn := af68) rfl ?_
  dsimp only [af68, qm, q, qG, qn, qi, qb, qB, qk, qc, qo, qg, qv, qr]
  rcases h with h | h
  · subst h
    simp -implicitDefEqProofs only [go_sem]
    rfl
  · have e := shl4 h (j := .u64)
    have h0 : ¬ k < 0 := by omega
    have h5 : ¬ 5 ≤ k := by omega
    have hc : ∀ G, convA (.int .u64) (.int .i64 k) G = some (.int .u64 k, G) := fun G => by
      rcases h with rfl | rfl | rfl | rfl | rfl <;> rfl
    simp -implicitDefEqProofs only [h0, h5, hc, ↓e, Bool.false_eq_true, go_sem]
theorem c_rFit {H : AHeap} {n : Int} (hn : n ≤ 9223372036854775807) : CW MN 50 [.int .i64 n] H fun w H' => w = .int .i64 (ofP n) ∧ H' = H := by
  refine CW_of (fn := af50) rfl ?_
  dsimp only [af50, qm, q, qG, qn, qi, qb, qB, qk, qc, qo, qg, qv, qr]
  simp -implicitDefEqProofs only [go_sem]
  refine WP_mono (Q := fun ex fr H' => ex = .exit 0 ∧ ofP n = -1 ∧ H' = H ∨ ex = .ret ∧ fr.get 2 = some (.int .i64 (ofP n)) ∧ H' = H) ?_ (WP_loop (fun q fr H' => ∃ k : Int, (q : Int) = 5 - k ∧ 0 ≤ k ∧ k ≤ 5 ∧ (0 ≤ n → n ≤ 62 → k ≤ ofP n) ∧ fr.get 0 = some (.int .i64 n) ∧ fr.get 3 = some (.int .i64 k) ∧ H' = H) 5 ?_ ?_)
  rotate_left
  · refine ⟨0, rfl, by omega, by omega, ?_, ?_⟩
    · intro h1 h2
      unfold ofP; repeat' split
      all_goals omega
    simp -implicitDefEqProofs only [go_sem]
  · rintro q fr H1 ⟨k, hq, hk0, hk5, hko, g0, g3, rfl⟩
    have ofb : 0 ≤ n → n ≤ 62 → ofP n ≤ 4 := fun h1 h2 => by
      unfold ofP; repeat' split
      all_goals omega
    by_cases hk : k < 5
    · by_cases hn0 : 0 ≤ n
      · by_cases hn1 : n ≤ 62
        · simp -implicitDefEqProofs only [g0, g3, hk, hn0, hn1, go_sem]
          refine CW.mono (c_rfitWords (k := k) (by omega)) ?_
          rintro w H2 ⟨rfl, rfl⟩
          have hk' : k = 0 ∨ k = 1 ∨ k = 2 ∨ k = 3 ∨ k = 4 := by omega
          have hw1 : IntKind.i64.wrap (k + 1) = k + 1 := wrap64 (by omega) (by omega)
          have hko := hko hn0 hn1
          have hw2 : IntKind.i64.wrap (fitP k - 2) = fitP k - 2 := by
            rcases hk' with rfl | rfl | rfl | rfl | rfl <;> rfl
          by_cases hge : n ≤ fitP k - 2
          · have : ofP n = k := by
              revert hge hko
              unfold ofP fitP
              rcases hk' with rfl | rfl | rfl | rfl | rfl <;> simp <;> (repeat' split) <;> omega
            simp -implicitDefEqProofs only [g0, g3, hw2, hge, this, or_true, false_and, false_or, go_sem]
          · simp -implicitDefEqProofs only [g0, g3, hw2, hge, hw1, Bool.false_eq_true, go_sem]
            refine ⟨(4 - k).toNat, by omega, k + 1, by omega, by omega, by omega, fun _ _ => ?_, rfl⟩
            revert hge hko
            unfold ofP fitP
            rcases hk' with rfl | rfl | rfl | rfl | rfl <;> simp <;> (repeat' split) <;> omega
        · have : ofP n = -1 := by unfold ofP; rw [if_pos (.inr (by omega))]
          simp -implicitDefEqProofs only [g0, g3, hk, hn0, hn1, Bool.false_eq_true, go_sem]
          exact .inl this
      · have : ofP n = -1 := by unfold ofP; rw [if_pos (.inl (by omega))]
        simp -implicitDefEqProofs only [g0, g3, hk, hn0, Bool.false_eq_true, go_sem]
        exact .inl this
    · have : ofP n = -1 := by
        by_cases h : n < 0 ∨ 62 < n
        · unfold ofP; rw [if_pos h]
        · have h1 := hko (by omega) (by omega)
          have h2 := ofb (by omega) (by omega)
          omega
      simp -implicitDefEqProofs only [g0, g3, hk, Bool.false_eq_true, go_sem]
      exact .inl this
  rintro ex fr H1 (⟨rfl, hr, rfl⟩ | ⟨rfl, g2, rfl⟩)
  · simp -implicitDefEqProofs only [hr, go_sem]
  · simp -implicitDefEqProofs only [g2, go_sem]
attribute [local go_sem ↓] exA_lookup stepA_lookup exA_mapEnt exA_entSt exA_delete exA_mapUpd WP_seq WP_skip WP_region WP_dregion WP_cond WP_block WP_exit WP_ret OW_nil OW_cons DW_nil DW_cons XW_call reduceIte OW_guard DW_guard
attribute [local go_sem] LkA_some EvA_some entL_some updM_some at0 at1 at2 XW exA KO_eq OptK_some EvK_some GW2_true GW2_false KS_normal KS_ret KS_exit KB_normal KB_ret KB_exit CP2_bool RP_ret RP_normal putA_some putA_none ev_t ev_c evs evo wantA initA resA Tr.get_set vl chkOk cond_true cond_false Nat.add_zero Nat.mul_one Nat.one_mul Nat.zero_add Nat.zero_mul aggOf pInt binA unA intA beq_true beq_false Bool.not_true Bool.not_false Bool.not_eq_true and_self and_true true_and reduceIte Nat.reduceEqDiff Nat.succ_ne_self Nat.reduceAdd Nat.reduceMul Nat.reduceSub Nat.reduceBEq Nat.reduceLT Nat.reduceLeDiff Int.cast_ofNat_Int Int.reduceToNat Int.reduceLT Int.reduceLE Int.reduceGE Int.reduceGT Int.reduceEq Int.reduceNe Int.reduceAdd Int.reduceSub Int.reduceNeg decide_true decide_false Int.toNat_natCast reduceCtorEq List.nil_append List.cons_append AV.boxy AV.cells List.length_cons List.length_nil Nat.beq_refl AOp.cl KDW_0 KDW_1 KDW_2 OWskip_eq DWskip_eq fillA setAt DChk DAt stepA ble_dec beq_dec Bool.and_self Bool.and_true Bool.true_and Bool.and_false Bool.false_and List.take_succ_cons List.take_zero List.drop_succ_cons List.drop_zero List.take_nil List.drop_nil List.append_nil eqAV eqAVL BEq.rfl sameS Option.map Option.isNone wrap64 gt_iff_lt ge_iff_le Int.lt_irrefl Int.le_refl
set_option maxHeartbeats 4000000
def LI (T : Nat → Nat) (lo : Nat) (H : AHeap) (v : AV) (l : List Int) : Prop := (l = [] ∧ ∃ a s0 cl, v = .slice a s0 0 cl ∧ (a = none ∨ s0 = 1)) ∨ ∃ x o cl, v = .slice (some (x, o)) 1 l.length cl ∧ lo ≤ x ∧ T x = 0 ∧ Rd H x o (l.map iv)
section
variable {T : Nat → Nat} {lo : Nat} {H H' : AHeap} {v : AV} {l : List Int}
theorem LI.keep (h : LI T lo H v l) (hl : H.next ≤ H'.next) (hg : ∀ x, lo ≤ x → T x = 0 → x < H.next → H'.get x = H.get x) : LI T lo H' v l := by
  rcases h with h | ⟨x, o, cl, e, h1, h2, h3⟩
  · exact .inl h
  · exact .inr ⟨x, o, cl, e, h1, h2, h3.keep hl (hg x h1 h2 h3.1)⟩
theorem LI.sm (h : LI T lo H v l) (s : Sm H H') : LI T lo H' v l := h.keep s.1 fun x _ _ hx => s.gt hx
theorem LI.shape (h : LI T lo H v l) : ∃ a s0 cl, v = .slice a s0 l.length cl ∧ (a = none ∨ s0 = 1) := by
  rcases h with ⟨rfl, a, s0, cl, e, k⟩ | ⟨x, o, cl, e, -⟩
  · exact ⟨a, s0, cl, e, k⟩
  · exact ⟨_, _, _, e, .inr rfl⟩
theorem LI.at {a : Option (Nat × Nat)} {s0 n : Nat} {cl : Bool} (h : LI T lo H (.slice a s0 n cl) l) {j : Nat} (hj : j < l.length) : ∃ x o, a = some (x, o) ∧ s0 = 1 ∧ loadA H x (o + j) 1 = some [.int .i64 l[j]] := by
  rcases h with ⟨rfl, -⟩ | ⟨x, o, cl', e, -, -, hr⟩
  · simp at hj
  · cases e
    exact ⟨x, o, rfl, rfl, hr.one (j := j) (v := iv l[j]) (by rw [List.getElem?_map, List.getElem?_eq_getElem hj]; rfl)⟩
theorem LI.src (h : LI T lo H v l) : srcA H 1 false v = some (l.map iv, l.length) := by
  rcases h with ⟨rfl, a, s0, cl, rfl, -⟩ | ⟨x, o, cl, rfl, -, -, hr⟩
  · cases a <;> rfl
  · exact srcA_slice hr (by simp)
theorem LI.of_sl {D : Nat → Prop} {n : Nat} (h : Sl H D 1 v n (l.map iv)) (hn : n = l.length) (hD : ∀ y, D y → lo ≤ y ∧ T y = 0) : LI T lo H v l := by
  rcases h with ⟨⟨s0, rfl⟩, h1, -⟩ | ⟨x, i, cl, rfl, hx, -, hr, -⟩
  · have : l = [] := by simpa using h1
    exact .inl ⟨this, none, s0, true, rfl, .inl rfl⟩
  · exact .inr ⟨x, i, cl, by rw [hn], (hD x hx).1, (hD x hx).2, hr⟩
theorem app_copy {e : Nat} (he : Rd H e 0 []) (h : LI T lo H v l) (hm : l.length ≤ 1000000) : ∃ aa ss cc H2, appendF H 1 8 false (.slice (some (e, 0)) 1 0 true) v = some (.slice aa ss l.length cc, H2) ∧ Sm H H2 ∧ Sl H2 (fun y => y = e ∨ H.next ≤ y) 1 (.slice aa ss l.length cc) l.length (l.map iv) ∧ (∀ y, ub (.slice aa ss l.length cc) = some y → H.next ≤ y) ∧ H2.next ≤ H.next + 1 := by
  have sl0 : Sl H (fun y => y = e) 1 (.slice (some (e, 0)) 1 0 true) 0 [] := .inr ⟨e, 0, true, rfl, rfl, rfl, he, fun h => (by cases h)⟩
  by_cases h0 : l.length = 0
  · obtain rfl : l = [] := List.eq_nil_of_length_eq_zero h0
    have ap := sl0.append0 (bytes := 8) h.src
    exact ⟨_, _, _, _, ap, Chg.refl H, sl0.mono fun y hy => .inl hy, fun y hy => (by cases hy), by omega⟩
  · obtain ⟨H2, e1, e2, e3, e4⟩ := sl0.append (bytes := 8) h.src (by simp) h0 (by omega) (by omega)
    simp only [Nat.zero_add, List.nil_append] at e1 e4
    exact ⟨_, _, _, H2, e1, e3, e4.mono fun y hy => .inr (by omega), fun y hy => by have := Sl.ubD e4 hy; omega, by omega⟩
theorem slA_from {x o s n : Nat} {cl : Bool} (h : 1 ≤ n) : slA x o s n cl (some (.int .i64 1)) none none = some (.slice (some (x, o + s)) s (n - 1) (cl && n.beq n)) := by
  have b2 : boundA (some (.int .i64 1)) 0 n 0 = some 1 := by simp only [boundA]; rw [if_pos (by omega)]; rfl
  have b3 : ∀ m, boundA none 0 m n = some n := fun m => rfl
  simp only [slA, b2, b3, Option.isSome_none, Option.isNone_none, Bool.false_and, cond_false, Nat.one_mul]
theorem LI.tail {x o n : Nat} {cl cl' : Bool} {i : Int} (h : LI T lo H (.slice (some (x, o)) 1 n cl) (i :: l)) : LI T lo H (.slice (some (x, o + 1)) 1 (n - 1) cl') l := by
  rcases h with ⟨h, -⟩ | ⟨x', o', c, e, h1, h2, hr⟩
  · cases h
  · cases e
    refine .inr ⟨x, o + 1, cl', by simp, h1, h2, ?_⟩
    exact Rd.sub (n := 0) hr ⟨[iv i], [], by simp, rfl⟩
end
structure RMill (T : Nat → Nat) (lo : Nat) (H : AHeap) (b : Nat) (m : Ml) : Prop where
  blk : ∃ f, Blk H b 4 f ∧ ∀ k, k < 4 → LI T lo H (f k) (m k)
section
variable {T : Nat → Nat} {lo : Nat} {H H' : AHeap} {b : Nat} {m : Ml} {N : Nat}
theorem RMill.keep (h : RMill T lo H b m) (hl : H.next ≤ H'.next) (hb : H'.get b = H.get b) (hg : ∀ x, lo ≤ x → T x = 0 → x < H.next → H'.get x = H.get x) : RMill T lo H' b m := by
  obtain ⟨f, hf, hk⟩ := h.blk
  exact ⟨f, hf.keep' hl hb, fun k hk4 => (hk k hk4).keep hl hg⟩
theorem RMill.lt (h : RMill T lo H b m) : b < H.next := by obtain ⟨f, hf, -⟩ := h.blk; exact hf.1
theorem RMill.cg (h : RMill T lo H b m) {m' : Ml} (e : ∀ k, k < 4 → m k = m' k) : RMill T lo H b m' := by
  obtain ⟨f, hf, hk⟩ := h.blk
  exact ⟨f, hf, fun k hk4 => by rw [← e k hk4]; exact hk k hk4⟩
theorem RMill.len (ok : MlOk N m) (hN : N ≤ 512) {k : Nat} (hk : k < 4) : (m k).length ≤ 512 := by
  have := cells_le (ok.nd k hk) fun x hx => ok.inn k x hk hx
  omega
theorem RMill.st {f : Nat → AV} (hf : Blk H b 4 f) (hk : ∀ k, k < 4 → LI T lo H (f k) (m k)) (hb : T b ≠ 0) {k : Nat} (hk4 : k < 4) {v : AV} {l : List Int} (hv : LI T lo H v l) : ∃ H', storeA H b k [v] = some H' ∧ Blk H' b 4 (upd f k v) ∧ (∀ j, j < 4 → LI T lo H' (upd f k v j) (upd m k l j)) ∧ Ch b H H' := by
  obtain ⟨H', e1, e2, e3, e4⟩ := hf.store hk4 v
  have kp : ∀ {u l}, LI T lo H u l → LI T lo H' u l := fun h => h.keep (by rw [e3]; exact Nat.le_refl _) fun x _ hx _ => e4 x fun e => hb (e ▸ hx)
  refine ⟨H', e1, e2, fun j hj => ?_, e3, e4⟩
  by_cases e : j = k
  · subst e; rw [upd_same, upd_same]; exact kp hv
  · rw [upd_ne e, upd_ne e]; exact kp (hk j hj)
theorem c_rfirst (h : RMill T lo H b m) (ok : MlOk N m) (hN : N ≤ 512) (hT : T b ≠ 0) (hlo : lo ≤ H.next) (hnew : ∀ x, H.next ≤ x → T x = 0) {p qe : Nat} (hp : p < 4) (hq : qe < 4) (hpq : p ≠ qe) : CW MN 84 [.ptr (some (b, 0)), .int .i64 p, .int .i64 qe] H fun v H' => v = .int .i64 (match m p with | [] => -1 | i :: _ => i) ∧ RMill T lo H' b (match m p with | [] => m | i :: _ => mv m i qe) ∧ Evo (fun x => x = b) H H' := by
  refine CW_of (fn := af84) rfl ?_
  dsimp only [af84, qm, q, qG, qn, qi, qb, qB, qk, qc, qo, qg, qv, qr]
  obtain ⟨f, hf, hk⟩ := h.blk
  have lp := hf.load hp
  have p0 : (0 : Int) ≤ p := by omega
  have p4 : (p : Int) < 4 := by omega
  have q0 : (0 : Int) ≤ qe := by omega
  have q4 : (qe : Int) < 4 := by omega
  obtain ⟨a, s0, cl, hfp, ha⟩ := (hk p hp).shape
  rw [hfp] at lp
  cases hm : m p with
  | nil =>
    rw [hm] at lp
    simp -implicitDefEqProofs only [p0, p4, lp, List.length_nil, Int.natCast_zero, Nat.zero_add, eqA, eqD, go_sem]
    exact ⟨h, Evo.refl _ _⟩
  | cons i l =>
    have hlen := RMill.len ok hN hp
    have hlen2 := RMill.len ok hN hq
    have hkp := hk p hp
    rw [hfp] at hkp
    have hkp' := hkp
    rw [hm] at hkp' lp
    obtain ⟨x, o, rfl, rfl, ld⟩ := hkp'.at (j := 0) (by simp)
    simp only [List.getElem_cons_zero, Nat.add_zero] at ld
    have hl0 : ((((i :: l).length : Nat) : Int) == 0) = false := by simp <;> omega
    have hl1 : (0 : Int) < (((i :: l).length : Nat) : Int) := by simp <;> omega
    have hl2 : 1 ≤ (i :: l).length := by simp
    have hfr := slA_from (x := x) (o := o) (s := 1) (n := (i :: l).length) (cl := cl) hl2
    rw [Nat.beq_refl, Bool.and_true] at hfr
    -- the first region
    have s1 := Chg.newRow H []
    have r1 := Rd.newRow H []
    have n1 : (H.newRow []).next = H.next + 1 := rfl
    generalize eH1 : H.newRow [] = H1 at *
    have tl := (hkp'.tail (cl' := cl)).sm s1
    obtain ⟨aa2, ss2, cc2, H2, a1, a2, a3, a4, a5⟩ := app_copy r1 tl (by rw [hm] at hlen; simp at hlen; omega)
    have hf2 := hf.keep' (H' := H2) (by have := a2.1; omega) (by rw [a2.gt (by have := hf.1; omega), s1.gt hf.1])
    have hk2 : ∀ k, k < 4 → LI T lo H2 (f k) (m k) := fun k hk4 => ((hk k hk4).sm s1).sm a2
    obtain ⟨v2, hv2⟩ : ∃ v2, v2 = AV.slice aa2 ss2 l.length cc2 := ⟨_, rfl⟩
    have lv2 : LI T lo H2 v2 l := by
      rw [hv2]
      refine LI.of_sl a3 rfl fun y hy => ?_
      rcases hy with rfl | hy
      · exact ⟨hlo, hnew _ (Nat.le_refl _)⟩
      · exact ⟨by omega, hnew _ (by omega)⟩
    obtain ⟨H3, b1, b2, b3, b4⟩ := RMill.st hf2 hk2 hT hp lv2
    have lp1 : loadA H1 b p 1 = loadA H b p 1 := s1.ld hf.1
    rw [lp] at lp1
    have lp2 : loadA H2 b p 1 = loadA H1 b p 1 := a2.ld (by have := hf.1; omega)
    rw [lp1] at lp2
    rw [hv2] at b1
    -- the second region
    obtain ⟨f3, hf3⟩ : ∃ f3, f3 = upd f p v2 := ⟨_, rfl⟩
    rw [← hf3] at b2 b3
    have nb3 : H3.next = H2.next := b4.1
    have lq3 := b2.load hq
    have fq : f3 qe = f qe := by rw [hf3, upd_ne (Ne.symm hpq)]
    have mq : upd m p l qe = m qe := upd_ne (Ne.symm hpq)
    have kq3 := b3 qe hq
    rw [fq, mq] at kq3
    rw [fq] at lq3
    obtain ⟨aq, sq, clq, hfq, hsq⟩ := kq3.shape
    rw [hfq] at lq3 kq3
    have s4 := Chg.newRow H3 []
    have r4 := Rd.newRow H3 []
    have n4 : (H3.newRow []).next = H3.next + 1 := rfl
    generalize eH4 : H3.newRow [] = H4 at *
    have s5 := Chg.newRow H4 [.int .i64 i]
    have r5 := Rd.newRow H4 [.int .i64 i]
    have n5 : (H4.newRow [.int .i64 i]).next = H4.next + 1 := rfl
    generalize eH5 : H4.newRow [.int .i64 i] = H5 at *
    have b3lt := b2.1
    have l4 : loadA H4 b qe 1 = some [.slice aq sq (m qe).length clq] := by rw [s4.ld b3lt]; exact lq3
    have l5 : loadA H5 b qe 1 = some [.slice aq sq (m qe).length clq] := by rw [s5.ld (by omega)]; exact l4
    obtain ⟨aa6, ss6, cc6, H6, c1, c2, c3, c4, c5⟩ := app_copy (r4.keep s5.1 (s5.gt (by omega))) ((kq3.sm s4).sm s5) (by omega)
    have r6 := r5.keep c2.1 (c2.gt r5.1)
    obtain ⟨H7, d1, d2, d3, d4⟩ := c3.append (bytes := 8) (srcA_slice (s := 1) (m := 1) (s' := 1) (cl := true) r6 rfl) rfl (by omega) (by omega) (by omega)
    have sm5 : Sm H3 H5 := s4.trans s5
    have sm7 : Sm H5 H7 := c2.weak d3 fun y hy => by have := c4 y hy; omega
    have l6 : loadA H6 b qe 1 = some [.slice aq sq (m qe).length clq] := by rw [c2.ld (by omega)]; exact l5
    have l7 : loadA H7 b qe 1 = some [.slice aq sq (m qe).length clq] := by rw [sm7.ld (by omega)]; exact l5
    have ge3 : H.next ≤ H3.next := by have := a2.1; omega
    have lv7 : LI T lo H7 (.slice (some (H6.next, 0)) 1 ((m qe).length + 1) false) (m qe ++ [i]) := LI.of_sl (by rw [List.map_append]; exact d4) (by simp) fun y hy => by
      have := c2.1
      subst hy
      exact ⟨by omega, hnew _ (by omega)⟩
    have hf7 := b2.keep' (H' := H7) (by have := sm7.1; omega) (by rw [sm7.gt (by omega), sm5.gt b3lt])
    have hk7 : ∀ k, k < 4 → LI T lo H7 (f3 k) (upd m p l k) := fun k hk4 => ((b3 k hk4).sm sm5).sm sm7
    obtain ⟨H8, g1, g2, g3, g4⟩ := RMill.st hf7 hk7 hT hq lv7
    generalize hLn : (i :: l).length = Ln at lp lp1 lp2 hl0 hl1 hfr a1
    simp -implicitDefEqProofs only [p0, p4, q0, q4, lp, lp1, lp2, hl0, hl1, ld, hfr, eH1, beq_dec, a1, b1, eH4, eH5, lq3, l4, l5, l6, l7, c1, d1, g1, Nat.zero_add, Int.toNat_zero, Nat.add_zero, Bool.false_eq_true, eqA, eqD, go_sem]
    refine ⟨⟨_, g2, fun j hj => ?_⟩, ?_⟩
    · have e := mv_head ok hp hq hpq hm
      have : upd (upd m p l) qe (m qe ++ [i]) j = mv m i qe j := by
        by_cases e1 : j = qe
        · rw [e1, upd_same, e.2.1]
        · rw [upd_ne e1]
          by_cases e2 : j = p
          · rw [e2, upd_same, e.1]
          · rw [upd_ne e2, e.2.2 j hj e2 e1]
      rw [← this]; exact g3 j hj
    · refine ⟨by rw [g4.1]; have := sm7.1; have := sm5.1; omega, fun x hx hne => ?_⟩
      rw [g4.2 x hne, sm7.gt (by have := sm5.1; omega), sm5.gt (by omega), b4.2 x hne, a2.gt (by omega), s1.gt hx]
theorem c_rAlloc (h : RMill T lo H b m) (ok : MlOk N m) (hN : N ≤ 512) (hT : T b ≠ 0) (hlo : lo ≤ H.next) (hnew : ∀ x, H.next ≤ x → T x = 0) : CW MN 51 [.ptr (some (b, 0))] H fun v H' => v = .int .i64 (alM m).1 ∧ RMill T lo H' b (alM m).2 ∧ Evo (fun x => x = b) H H' := by
  refine CW_of (fn := af51) rfl ?_
  dsimp only [af51, qm, q, qG, qn, qi, qb, qB, qk, qc, qo, qg, qv, qr]
  simp -implicitDefEqProofs only [eqA, eqD, go_sem]
  refine CW.mono (c_rfirst h ok hN hT hlo hnew (p := 0) (qe := 1) (by omega) (by omega) (by omega)) ?_
  rintro v H' ⟨rfl, h1, h2⟩
  simp -implicitDefEqProofs only [eqA, eqD, go_sem]
  unfold alM
  cases hm : m 0 with
  | nil => rw [hm] at h1; exact ⟨rfl, h1, h2⟩
  | cons i l => rw [hm] at h1; exact ⟨rfl, h1, h2⟩
theorem c_rScan (h : RMill T lo H b m) (ok : MlOk N m) (hN : N ≤ 512) (hT : T b ≠ 0) (hlo : lo ≤ H.next) (hnew : ∀ x, H.next ≤ x → T x = 0) : CW MN 67 [.ptr (some (b, 0))] H fun v H' => v = .int .i64 (scM m).1 ∧ RMill T lo H' b (scM m).2 ∧ Evo (fun x => x = b) H H' := by
  refine CW_of (fn := af67) rfl ?_
  dsimp only [af67, qm, q, qG, qn, qi, qb, qB, qk, qc, qo, qg, qv, qr]
  simp -implicitDefEqProofs only [eqA, eqD, go_sem]
  refine CW.mono (c_rfirst h ok hN hT hlo hnew (p := 2) (qe := 1) (by omega) (by omega) (by omega)) ?_
  rintro v H' ⟨rfl, h1, h2⟩
  simp -implicitDefEqProofs only [eqA, eqD, go_sem]
  unfold scM
  cases hm : m 2 with
  | nil => rw [hm] at h1; exact ⟨rfl, h1, h2⟩
  | cons i l => rw [hm] at h1; exact ⟨rfl, h1, h2⟩
end
set_option maxHeartbeats 4000000
section
variable {T : Nat → Nat} {lo : Nat} {H H' : AHeap} {b : Nat} {m : Ml} {N : Nat}
theorem colM_step {m : Ml} {i : Int} {k : Nat} (hk : k < 4) (hno : ∀ j, j < k → i ∉ m j) (hi : i ∈ m k) : colM m i = k := by
  unfold colM
  match k, hk with
  | 0, _ => rw [if_pos hi]; rfl
  | 1, _ => rw [if_neg (hno 0 (by omega)), if_pos hi]; rfl
  | 2, _ => rw [if_neg (hno 0 (by omega)), if_neg (hno 1 (by omega)), if_pos hi]; rfl
  | 3, _ => rw [if_neg (hno 0 (by omega)), if_neg (hno 1 (by omega)), if_neg (hno 2 (by omega)), if_pos hi]; rfl
theorem colM_none {m : Ml} {i : Int} (hno : ∀ j, j < 4 → i ∉ m j) : colM m i = -1 := by
  unfold colM
  rw [if_neg (hno 0 (by omega)), if_neg (hno 1 (by omega)), if_neg (hno 2 (by omega)), if_neg (hno 3 (by omega))]
theorem c_rColor (h : RMill T lo H b m) (ok : MlOk N m) (hN : N ≤ 512) (i : Int) : CW MN 56 [.ptr (some (b, 0)), .int .i64 i] H fun v H' => v = .int .i64 (colM m i) ∧ H' = H := by
  refine CW_of (fn := af56) rfl ?_
  dsimp only [af56, qm, q, qG, qn, qi, qb, qB, qk, qc, qo, qg, qv, qr]
  obtain ⟨f, hf, hk⟩ := h.blk
  simp -implicitDefEqProofs only [eqA, eqD, go_sem]
  refine WP_loop (fun q fr H' => ∃ k : Nat, q = 4 - k ∧ k ≤ 4 ∧ (∀ j, j < k → i ∉ m j) ∧ fr.get 0 = some (.ptr (some (b, 0))) ∧ fr.get 1 = some (.int .i64 i) ∧ fr.get 8 = some (.int .i64 k) ∧ H' = H) 4 ?_ ?_
  · refine ⟨0, rfl, by omega, fun j hj => by omega, ?_⟩
    simp -implicitDefEqProofs only [eqA, eqD, go_sem]
  · rintro q fr H' ⟨k, hq, hk4, hno, g0, g1, g8, rfl⟩
    have k0 : (0 : Int) ≤ k := by omega
    by_cases hlt : k < 4
    · have hlt' : (k : Int) < 4 := by omega
      have hw := wrapS hlt (by omega)
      have lk := hf.load hlt
      have hkk := hk k hlt
      have hlen := RMill.len ok hN hlt
      obtain ⟨a, s0, cl, e, -⟩ := hkk.shape
      rw [e] at lk hkk
      simp -implicitDefEqProofs only [g0, g1, g8, hlt', k0, lk, Nat.zero_add, eqA, eqD, go_sem]
      refine WP_mono (Q := fun ex fr G => ex = .exit 2 ∧ i ∉ m k ∧ fr.get 0 = some (.ptr (some (b, 0))) ∧ fr.get 1 = some (.int .i64 i) ∧ fr.get 8 = some (.int .i64 k) ∧ G = H' ∨ ex = .ret ∧ i ∈ m k ∧ fr.get 4 = some (.int .i64 k) ∧ G = H') ?_ (WP_loop (fun q fr G => ∃ j : Nat, q = (m k).length - j ∧ j ≤ (m k).length ∧ (∀ t (ht : t < (m k).length), t < j → (m k)[t] ≠ i) ∧ fr.get 0 = some (.ptr (some (b, 0))) ∧ fr.get 1 = some (.int .i64 i) ∧ fr.get 5 = some (.int .i64 k) ∧ fr.get 8 = some (.int .i64 k) ∧ fr.get 16 = some (.slice a s0 (m k).length cl) ∧ fr.get 17 = some (.int .i64 (m k).length) ∧ fr.get 18 = some (.int .i64 j) ∧ G = H') (m k).length ?_ ?_)
      rotate_left
      · refine ⟨0, rfl, by omega, fun t _ ht => by omega, ?_⟩
        simp -implicitDefEqProofs only [g0, g1, g8, eqA, eqD, go_sem]
      · rintro q fr G ⟨j, hq', hj, hnj, g0, g1, g5, g8, g16, g17, g18, rfl⟩
        have j0 : (0 : Int) ≤ j := by omega
        by_cases hjl : j < (m k).length
        · have hjl' : (j : Int) < ((m k).length : Int) := by omega
          have hw2 := wrapS hjl (by omega)
          obtain ⟨x, o, rfl, rfl, ld⟩ := hkk.at hjl
          by_cases he : (m k)[j] = i
          · have he' : ((m k)[j] == i) = true := by simpa using he
            have hmem : i ∈ m k := by rw [← he]; exact List.getElem_mem hjl
            simp -implicitDefEqProofs only [g0, g1, g5, g8, g16, g17, g18, hjl', j0, ld, he', eqA, eqD, go_sem]
            exact .inr hmem
          · have he' : ((m k)[j] == i) = false := by simpa using he
            simp -implicitDefEqProofs only [g0, g1, g5, g8, g16, g17, g18, hjl', j0, ld, he', hw2, Bool.false_eq_true, eqA, eqD, go_sem]
            refine ⟨(m k).length - (j + 1), by omega, j + 1, rfl, by omega, fun t ht htj => ?_, rfl⟩
            by_cases e : t = j
            · subst e; exact he
            · exact hnj t ht (by omega)
        · obtain rfl : j = (m k).length := by omega
          have hmem : i ∉ m k := by
            intro hm
            obtain ⟨t, ht, e⟩ := List.getElem_of_mem hm
            exact hnj t ht ht e
          simp -implicitDefEqProofs only [g0, g1, g5, g8, g16, g17, g18, Int.lt_irrefl, Bool.false_eq_true, eqA, eqD, go_sem]
          exact .inl hmem
      · rintro ex fr G (⟨rfl, hmem, g0, g1, g8, rfl⟩ | ⟨rfl, hmem, g4, rfl⟩)
        · simp -implicitDefEqProofs only [g0, g1, g8, hw, eqA, eqD, go_sem]
          refine ⟨4 - (k + 1), by omega, k + 1, rfl, by omega, fun j hj => ?_, rfl⟩
          by_cases e : j = k
          · subst e; exact hmem
          · exact hno j (by omega)
        · rw [colM_step hlt hno hmem]
          simp -implicitDefEqProofs only [g4, eqA, eqD, go_sem]
    · obtain rfl : k = 4 := by omega
      have e4 : ¬ ((4 : Nat) : Int) < 4 := by omega
      rw [colM_none hno]
      simp -implicitDefEqProofs only [g0, g1, g8, e4, Int.lt_irrefl, Bool.false_eq_true, eqA, eqD, go_sem]
theorem LI.push {n : Nat} {v : AV} {l : List Int} {D : Nat → Prop} {i : Int} (h : Sl H D 1 v n (l.map iv)) (hn : n = l.length) (hm : n ≤ 1000000) : ∃ H2, appendF (H.newRow [.int .i64 i]) 1 8 false v (.slice (some (H.next, 0)) 1 1 true) = some (.slice (some (H.next + 1, 0)) 1 (n + 1) false, H2) ∧ H2.next = H.next + 2 ∧ Chg H H2 (ub v) ∧ Sl H2 (fun y => y = H.next + 1) 1 (.slice (some (H.next + 1, 0)) 1 (n + 1) false) (n + 1) ((l ++ [i]).map iv) := by
  obtain ⟨H2, e1, e2, e3, e4⟩ := h.push1 (bytes := 8) (ys := [.int .i64 i]) rfl (by omega) (by omega)
  refine ⟨H2, e1, e2, e3, ?_⟩
  rw [List.map_append]; exact e4
theorem c_rShade (h : RMill T lo H b m) (ok : MlOk N m) (hN : N ≤ 512) (hT : T b ≠ 0) (hlo : lo ≤ H.next) (hnew : ∀ x, H.next ≤ x → T x = 0) (i : Int) : CW MN 89 [.ptr (some (b, 0)), .int .i64 i] H fun v H' => RMill T lo H' b (shM m i) ∧ Evo (fun x => x = b) H H' := by
  refine CW_of (fn := af89) rfl ?_
  dsimp only [af89, qm, q, qG, qn, qi, qb, qB, qk, qc, qo, qg, qv, qr]
  simp -implicitDefEqProofs only [eqA, eqD, go_sem]
  refine CW.mono (c_rColor h ok hN i) ?_
  rintro v H' ⟨rfl, rfl⟩
  unfold shM
  by_cases hi : i ∈ m 3
  · have ec : (colM m i != 3) = false := by
      rw [bne_eq_false_iff_eq]
      exact colM_eq ok (k := 3) (by omega) hi
    rw [if_pos hi]
    obtain ⟨f, hf, hk⟩ := h.blk
    have l3 := hf.load (i := 3) (by omega)
    have k3 := hk 3 (by omega)
    have len3 := RMill.len ok hN (k := 3) (by omega)
    have len2 := RMill.len ok hN (k := 2) (by omega)
    obtain ⟨a3, s3, cl3, e3, -⟩ := k3.shape
    rw [e3] at l3 k3
    have hnd := ok.nd 3 (by omega)
    simp -implicitDefEqProofs only [ec, l3, Bool.false_eq_true, eqA, eqD, go_sem]
    refine WP_mono (Q := fun ex fr G => ex = .exit 0 ∧ ∃ (v : AV) (n : Nat) (D : Nat → Prop) (a0 : Option (Nat × Nat)) (z0 : Nat) (c0 : Bool), v = AV.slice a0 z0 n c0 ∧ fr.get 0 = some (.ptr (some (b, 0))) ∧ fr.get 1 = some (.int .i64 i) ∧ fr.get 5 = some v ∧ n = ((m 3).filter (· != i)).length ∧ Sl G D 1 v n (((m 3).filter (· != i)).map iv) ∧ (∀ y, D y → H'.next ≤ y) ∧ Sm H' G) ?_ (WP_loop (fun q fr G => ∃ (j : Nat) (v : AV) (n : Nat) (D : Nat → Prop) (a0 : Option (Nat × Nat)) (z0 : Nat) (c0 : Bool), q = (m 3).length - j ∧ j ≤ (m 3).length ∧ v = AV.slice a0 z0 n c0 ∧ fr.get 0 = some (.ptr (some (b, 0))) ∧ fr.get 1 = some (.int .i64 i) ∧ fr.get 5 = some v ∧ fr.get 16 = some (.slice a3 s3 (m 3).length cl3) ∧ fr.get 17 = some (.int .i64 (m 3).length) ∧ fr.get 18 = some (.int .i64 j) ∧ n = (((m 3).take j).filter (· != i)).length ∧ Sl G D 1 v n ((((m 3).take j).filter (· != i)).map iv) ∧ (∀ y, D y → H'.next ≤ y) ∧ Sm H' G) (m 3).length ?_ ?_)
    rotate_left
    · refine ⟨0, .slice none 1 0 true, 0, fun _ => False, none, 1, true, rfl, by omega, rfl, ?_⟩
      simp -implicitDefEqProofs only [eqA, eqD, go_sem]
      exact ⟨rfl, .inl ⟨⟨1, rfl⟩, rfl, rfl⟩, by simp, Chg.refl _⟩
    · rintro q fr G ⟨j, v, n, D, a0, z0, c0, hq, hj, hv, g0, g1, g5, g16, g17, g18, hn, sl, hD, sm⟩
      have j0 : (0 : Int) ≤ j := by omega
      by_cases hjl : j < (m 3).length
      · have hjl' : (j : Int) < ((m 3).length : Int) := by omega
        have hw := wrapS hjl (by omega)
        obtain ⟨x, o, rfl, rfl, ld⟩ := (k3.sm sm).at hjl
        have htk : (m 3).take (j + 1) = (m 3).take j ++ [(m 3)[j]] := by rw [List.take_add_one, List.getElem?_eq_getElem hjl]; rfl
        have hnl : n ≤ 512 := by
          have h1 := List.length_filter_le (· != i) ((m 3).take j)
          rw [List.length_take] at h1
          omega
        by_cases he : (m 3)[j] = i
        · have he' : ((m 3)[j] != i) = false := by simpa using he
          simp -implicitDefEqProofs only [g0, g1, g5, g16, g17, g18, hjl', j0, ld, he', hw, Bool.false_eq_true, eqA, eqD, go_sem]
          have ef : ((m 3).take (j + 1)).filter (· != i) = ((m 3).take j).filter (· != i) := by rw [htk, List.filter_append]; simp [he]
          refine ⟨(m 3).length - (j + 1), by omega, j + 1, v, n, D, a0, z0, c0, rfl, by omega, hv, rfl, rfl, ?_, ?_, hD, sm⟩
          · rw [ef]; exact hn
          · rw [ef]; exact sl
        · have he' : ((m 3)[j] != i) = true := by simpa using he
          obtain ⟨H2, e1, e2, e3', e4⟩ := LI.push (i := (m 3)[j]) sl hn (by omega)
          have sm2 : Sm H' H2 := sm.weak e3' fun y hy => hD y (Sl.ubD sl hy)
          simp -implicitDefEqProofs only [g0, g1, g5, g16, g17, g18, hjl', j0, ld, he', hw, e1, eqA, eqD, go_sem]
          have ef : ((m 3).take (j + 1)).filter (· != i) = ((m 3).take j).filter (· != i) ++ [(m 3)[j]] := by rw [htk, List.filter_append]; simp [he]
          refine ⟨(m 3).length - (j + 1), by omega, j + 1, _, n + 1, fun y => y = G.next + 1, _, _, _, rfl, by omega, rfl, rfl, rfl, ?_, ?_, fun y hy => by have := sm.1; omega, sm2⟩
          · rw [ef, List.length_append, ← hn]; rfl
          · rw [ef]; exact e4
      · obtain rfl : j = (m 3).length := by omega
        rw [List.take_length] at hn sl
        simp -implicitDefEqProofs only [g0, g1, g5, g16, g17, g18, Int.lt_irrefl, Bool.false_eq_true, eqA, eqD, go_sem]
        exact ⟨v, n, D, a0, z0, c0, hv, rfl, hn, sl, hD, sm⟩
    · rintro ex fr G ⟨rfl, v, n, D, a0, z0, c0, rfl, g0, g1, g5, hn, sl, hD, sm⟩
      have hfer : (m 3).filter (· != i) = (m 3).erase i := (hnd.erase_eq_filter i).symm
      rw [hfer] at hn sl
      have lv : LI T lo G (.slice a0 z0 n c0) ((m 3).erase i) := LI.of_sl sl hn fun y hy => ⟨by have := hD y hy; omega, hnew y (hD y hy)⟩
      have hfG := hf.keep' (H' := G) sm.1 (sm.gt hf.1)
      have hkG : ∀ k, k < 4 → LI T lo G (f k) (m k) := fun k hk4 => (hk k hk4).sm sm
      obtain ⟨G1, b1, b2, b3, b4⟩ := RMill.st hfG hkG hT (k := 3) (by omega) lv
      have l2 := b2.load (i := 2) (by omega)
      have k2 := b3 2 (by omega)
      obtain ⟨a2, s2, cl2, e2, -⟩ := k2.shape
      rw [upd_ne (by omega)] at e2
      rw [upd_ne (by omega), e2] at l2
      rw [upd_ne (by omega), upd_ne (by omega), e2] at k2
      rw [upd_ne (by omega)] at e2 l2 k2
      have bG := b2.1
      have s4 := Chg.newRow G1 []
      have r4 := Rd.newRow G1 []
      have n4 : (G1.newRow []).next = G1.next + 1 := rfl
      generalize eH4 : G1.newRow [] = H4 at *
      have s5 := Chg.newRow H4 [.int .i64 i]
      have r5 := Rd.newRow H4 [.int .i64 i]
      have n5 : (H4.newRow [.int .i64 i]).next = H4.next + 1 := rfl
      generalize eH5 : H4.newRow [.int .i64 i] = H5 at *
      have l4 : loadA H4 b 2 1 = some [.slice a2 s2 (m 2).length cl2] := by rw [s4.ld bG]; exact l2
      have l5 : loadA H5 b 2 1 = some [.slice a2 s2 (m 2).length cl2] := by rw [s5.ld (by omega)]; exact l4
      obtain ⟨aa6, ss6, cc6, H6, c1, c2, c3, c4, c5⟩ := app_copy (r4.keep s5.1 (s5.gt (by omega))) ((k2.sm s4).sm s5) (by omega)
      have r6 := r5.keep c2.1 (c2.gt r5.1)
      obtain ⟨H7, d1, d2, d3, d4⟩ := c3.append (bytes := 8) (srcA_slice (s := 1) (m := 1) (s' := 1) (cl := true) r6 rfl) rfl (by omega) (by omega) (by omega)
      have sm5 : Sm G1 H5 := s4.trans s5
      have sm7 : Sm H5 H7 := c2.weak d3 fun y hy => by have := c4 y hy; omega
      have l6 : loadA H6 b 2 1 = some [.slice a2 s2 (m 2).length cl2] := by rw [c2.ld (by omega)]; exact l5
      have l7 : loadA H7 b 2 1 = some [.slice a2 s2 (m 2).length cl2] := by rw [sm7.ld (by omega)]; exact l5
      have ge3 : H'.next ≤ G1.next := by have := sm.1; have := b4.1; omega
      have lv7 : LI T lo H7 (.slice (some (H6.next, 0)) 1 ((m 2).length + 1) false) (m 2 ++ [i]) := LI.of_sl (by rw [List.map_append]; exact d4) (by simp) fun y hy => by
        have := c2.1
        subst hy
        exact ⟨by omega, hnew _ (by omega)⟩
      have hf7 := b2.keep' (H' := H7) (by have := sm7.1; omega) (by rw [sm7.gt (by omega), sm5.gt bG])
      have hk7 : ∀ k, k < 4 → LI T lo H7 (upd f 3 (.slice a0 z0 n c0) k) (upd m 3 ((m 3).erase i) k) := fun k hk4 => ((b3 k hk4).sm sm5).sm sm7
      obtain ⟨H8, g1', g2', g3', g4'⟩ := RMill.st hf7 hk7 hT (k := 2) (by omega) lv7
      simp -implicitDefEqProofs only [g0, g1, g5, b1, eH4, eH5, l2, l4, l5, l6, l7, c1, d1, g1', Nat.zero_add, eqA, eqD, go_sem]
      refine ⟨⟨_, g2', fun j hj => ?_⟩, ?_⟩
      · have hno : ∀ k, k < 4 → k ≠ 3 → i ∉ m k := fun k hk4 hk3 hm => hk3 (ok.dis k 3 i hk4 (by omega) hm hi)
        have : upd (upd m 3 ((m 3).erase i)) 2 (m 2 ++ [i]) j = mv m i 2 j := by
          unfold mv
          by_cases e1 : j = 2
          · rw [e1, upd_same, if_pos rfl, erase_not (hno 2 (by omega) (by omega))]
          · rw [upd_ne e1, if_neg e1]
            by_cases e2 : j = 3
            · rw [e2, upd_same]
            · rw [upd_ne e2, erase_not (hno j hj e2)]
        rw [← this]; exact g3' j hj
      · refine ⟨by rw [g4'.1]; have := sm7.1; have := sm5.1; omega, fun x hx hne => ?_⟩
        rw [g4'.2 x hne, sm7.gt (by have := sm5.1; omega), sm5.gt (by omega), b4.2 x hne, sm.gt hx]
  · have ec : (colM m i != 3) = true := by
      rw [bne_iff_ne]
      exact fun e => hi ((col_iff ok (k := 3) (by omega)).1 e)
    rw [if_neg hi]
    simp -implicitDefEqProofs only [ec, eqA, eqD, go_sem]
    exact ⟨h, Evo.refl _ _⟩
end
set_option maxHeartbeats 4000000
section
variable {T : Nat → Nat} {lo : Nat} {H H' : AHeap} {b : Nat} {m : Ml} {N : Nat}
theorem c_rFlip (h : RMill T lo H b m) (ok : MlOk N m) (hN : N ≤ 512) (hg : m 2 = []) (hT : T b ≠ 0) (hlo : lo ≤ H.next) (hnew : ∀ x, H.next ≤ x → T x = 0) : CW MN 71 [.ptr (some (b, 0))] H fun v H' => LI T lo H' v (m 3) ∧ RMill T lo H' b (flM m) ∧ Evo (fun x => x = b) H H' := by
  refine CW_of (fn := af71) rfl ?_
  dsimp only [af71, qm, q, qG, qn, qi, qb, qB, qk, qc, qo, qg, qv, qr]
  obtain ⟨f, hf, hk⟩ := h.blk
  have len0 := RMill.len ok hN (k := 0) (by omega)
  have len3 := RMill.len ok hN (k := 3) (by omega)
  obtain ⟨a0, z0, c0, e0, -⟩ := (hk 0 (by omega)).shape
  obtain ⟨a1, z1, c1, e1, -⟩ := (hk 1 (by omega)).shape
  obtain ⟨a2, z2, c2, e2, -⟩ := (hk 2 (by omega)).shape
  obtain ⟨a3, z3, c3, e3, -⟩ := (hk 3 (by omega)).shape
  have k0 := hk 0 (by omega)
  have k1 := hk 1 (by omega)
  have k3 := hk 3 (by omega)
  rw [e0] at k0
  rw [e1] at k1
  rw [e3] at k3
  have blt := hf.1
  have ld : ∀ G, G.get b = H.get b → loadA G b 0 1 = some [.slice a0 z0 (m 0).length c0] ∧ loadA G b 1 1 = some [.slice a1 z1 (m 1).length c1] ∧ loadA G b 2 1 = some [.slice a2 z2 (m 2).length c2] ∧ loadA G b 3 1 = some [.slice a3 z3 (m 3).length c3] := fun G hG => by
    rw [loadA_congr hG, loadA_congr hG, loadA_congr hG, loadA_congr hG, hf.load (by omega), hf.load (by omega), hf.load (by omega), hf.load (by omega), e0, e1, e2, e3]
    exact ⟨rfl, rfl, rfl, rfl⟩
  have l2 := (ld H rfl).2.2.1
  have m2 : (((m 2).length : Nat) : Int) = 0 := by rw [hg]; rfl
  -- out
  have s1 := Chg.newRow H []
  have r1 := Rd.newRow H []
  have n1 : (H.newRow []).next = H.next + 1 := rfl
  generalize eH1 : H.newRow [] = H1 at *
  have g1 : H1.get b = H.get b := s1.gt blt
  obtain ⟨ax, zx, cx, H2, p1, p2, p3, p4, p5⟩ := app_copy r1 (k3.sm s1) (by omega)
  have g2 : H2.get b = H.get b := by rw [p2.gt (by omega), g1]
  have lout : LI T lo H2 (.slice ax zx (m 3).length cx) (m 3) := LI.of_sl p3 rfl fun y hy => by
    rcases hy with rfl | hy
    · exact ⟨hlo, hnew _ (Nat.le_refl _)⟩
    · exact ⟨by omega, hnew _ (by omega)⟩
  -- the free ones
  have s3 := Chg.newRow H2 []
  have r3 := Rd.newRow H2 []
  have n3 : (H2.newRow []).next = H2.next + 1 := rfl
  generalize eH3 : H2.newRow [] = H3 at *
  have b2 : b < H2.next := by have := p2.1; omega
  have g3 : H3.get b = H.get b := by rw [s3.gt b2, g2]
  have k03 : LI T lo H3 (.slice a0 z0 (m 0).length c0) (m 0) := ((k0.sm s1).sm p2).sm s3
  obtain ⟨ay, zy, cy, H4, q1, q2, q3, q4, q5⟩ := app_copy r3 k03 (by omega)
  have g4 : H4.get b = H.get b := by rw [q2.gt (by omega), g3]
  have lo4 := (lout.sm s3).sm q2
  have ge2 : H.next ≤ H2.next := by have := p2.1; omega
  obtain ⟨af, zf, cf, H5, t1, t2, t3, t4⟩ : ∃ af zf cf H5, appendF H4 1 8 false (.slice ay zy (m 0).length cy) (.slice ax zx (m 3).length cx) = some (.slice af zf (m 0 ++ m 3).length cf, H5) ∧ Sm H2 H5 ∧ LI T lo H5 (.slice af zf (m 0 ++ m 3).length cf) (m 0 ++ m 3) ∧ H4.next ≤ H5.next := by
    by_cases h0 : (m 3).length = 0
    · have h3 : m 3 = [] := List.eq_nil_of_length_eq_zero h0
      have sr := lo4.src
      rw [h3] at sr
      have ap := q3.append0 (bytes := 8) (yv := .slice ax zx (m 3).length cx) (by rw [h3]; exact sr)
      refine ⟨_, _, _, _, by rw [h3, List.append_nil]; rw [h3] at ap; exact ap, s3.trans q2, ?_, Nat.le_refl _⟩
      rw [h3, List.append_nil]
      exact LI.of_sl q3 rfl fun y hy => by
        rcases hy with rfl | hy
        · exact ⟨by omega, hnew _ (by omega)⟩
        · exact ⟨by omega, hnew _ (by omega)⟩
    · obtain ⟨H5, w1, w2, w3, w4⟩ := q3.append (bytes := 8) lo4.src (by simp) h0 (by omega) (by omega)
      refine ⟨some (H4.next, 0), 1, false, H5, by rw [List.length_append]; exact w1, s3.trans (q2.weak w3 fun y hy => by have := q4 y hy; omega), ?_, by omega⟩
      rw [List.length_append]
      exact LI.of_sl (by rw [List.map_append]; exact w4) (by simp) fun y hy => by
        have := q2.1
        subst hy
        exact ⟨by omega, hnew _ (by omega)⟩
  have sm5 : Sm H H5 := s1.trans (p2.trans t2)
  have g5 : H5.get b = H.get b := by rw [sm5.gt blt]
  have hf5 := hf.keep' (H' := H5) sm5.1 g5
  have hk5 : ∀ k, k < 4 → LI T lo H5 (f k) (m k) := fun k hk4 => (hk k hk4).sm sm5
  obtain ⟨H6, u1, u2, u3, u4⟩ := RMill.st hf5 hk5 hT (k := 0) (by omega) t3
  have l61 := u2.load (i := 1) (by omega)
  rw [upd_ne (by omega), e1] at l61
  have k16 : LI T lo H6 (.slice a1 z1 (m 1).length c1) (m 1) := by
    have := u3 1 (by omega)
    rwa [upd_ne (by omega), upd_ne (by omega), e1] at this
  obtain ⟨H7, v1, v2, v3, v4⟩ := RMill.st u2 u3 hT (k := 3) (by omega) k16
  have lnil : LI T lo H7 (.slice none 1 0 true) [] := .inl ⟨rfl, none, 1, true, rfl, .inl rfl⟩
  have l71 := v2.load (i := 1) (by omega)
  rw [upd_ne (by omega), upd_ne (by omega), e1] at l71
  obtain ⟨H8, w1, w2, w3, w4⟩ := RMill.st v2 v3 hT (k := 1) (by omega) lnil
  have l3 := ld H1 g1
  have l4 := ld H3 g3
  have l5 := ld H4 g4
  have l55 := ld H5 g5
  have l22 := ld H2 g2
  simp -implicitDefEqProofs only [l2, m2, eH1, eH3, l3.2.2.2, p1, l22.1, l4.1, l5.1, l55.1, q1, t1, u1, l61, v1, l71, w1, Nat.zero_add, Int.lt_irrefl, Bool.false_eq_true, eqA, eqD, go_sem]
  have kp : ∀ {u l}, LI T lo H5 u l → LI T lo H8 u l := fun hh => hh.keep (by rw [w4.1, v4.1, u4.1]; exact Nat.le_refl _) fun x _ hx _ => by
    have hxb : x ≠ b := fun e => hT (e ▸ hx)
    rw [w4.2 x hxb, v4.2 x hxb, u4.2 x hxb]
  refine ⟨kp (lout.sm t2), ⟨_, w2, fun j hj => ?_⟩, ?_⟩
  · have : upd (upd (upd m 0 (m 0 ++ m 3)) 3 (m 1)) 1 [] j = flM m j := by
      unfold flM
      match j, hj with
      | 0, _ => simp [upd]
      | 1, _ => simp [upd]
      | 2, _ => simp [upd]
      | 3, _ => simp [upd]
    rw [← this]; exact w3 j hj
  · refine ⟨by rw [w4.1, v4.1, u4.1]; exact sm5.1, fun x hx hne => ?_⟩
    rw [w4.2 x hne, v4.2 x hne, u4.2 x hne, sm5.gt hx]
theorem c_rNewMill (hlo : lo ≤ H.next) (hnew : ∀ x, H.next + 1 ≤ x → T x = 0) (hb : T H.next ≠ 0) (hN : N ≤ 512) : CW MN 42 [.int .i64 N] H fun v H' => v = .ptr (some (H.next, 0)) ∧ RMill T lo H' H.next (newMl N) ∧ Sm H H' := by
  refine CW_of (fn := af42) rfl ?_
  dsimp only [af42, qm, q, qG, qn, qi, qb, qB, qk, qc, qo, qg, qv, qr]
  have b1 := Blk.new H [.slice none 1 0 true, .slice none 1 0 true, .slice none 1 0 true, .slice none 1 0 true] (n := 4) rfl
  have s1 := Chg.newRow H [.slice none 1 0 true, .slice none 1 0 true, .slice none 1 0 true, .slice none 1 0 true]
  have n1 : (H.newRow [.slice none 1 0 true, .slice none 1 0 true, .slice none 1 0 true, .slice none 1 0 true]).next = H.next + 1 := rfl
  generalize eH1 : H.newRow [.slice none 1 0 true, .slice none 1 0 true, .slice none 1 0 true, .slice none 1 0 true] = H1 at *
  simp -implicitDefEqProofs only [eH1, eqA, eqD, go_sem]
  refine WP_mono (Q := fun ex fr G => ex = .exit 0 ∧ fr.get 3 = some (.ptr (some (H.next, 0))) ∧ RMill T lo G H.next (newMl N) ∧ Sm H G) ?_ (WP_loop (fun q fr G => ∃ (k : Nat) (v : AV) (D : Nat → Prop) (f : Nat → AV) (a0 : Option (Nat × Nat)) (z0 : Nat) (c0 : Bool), q = N - k ∧ k ≤ N ∧ v = AV.slice a0 z0 k c0 ∧ fr.get 0 = some (.int .i64 N) ∧ fr.get 3 = some (.ptr (some (H.next, 0))) ∧ fr.get 4 = some (.int .i64 k) ∧ Blk G H.next 4 f ∧ f 0 = v ∧ (∀ j, 0 < j → j < 4 → f j = .slice none 1 0 true) ∧ Sl G D 1 v k ((rng k).map iv) ∧ (∀ y, D y → H1.next ≤ y ∧ y < G.next) ∧ Sm H G ∧ H1.next ≤ G.next) N ?_ ?_)
  · rintro ex fr G ⟨rfl, g3, hm, sm⟩
    simp -implicitDefEqProofs only [g3, eqA, eqD, go_sem]
    exact ⟨hm, sm⟩
  · refine ⟨0, .slice none 1 0 true, fun _ => False, updL (fun _ => .nilFunc) 0 [.slice none 1 0 true, .slice none 1 0 true, .slice none 1 0 true, .slice none 1 0 true], none, 1, true, rfl, by omega, rfl, ?_⟩
    simp -implicitDefEqProofs only [eqA, eqD, go_sem]
    refine ⟨b1, by simp [updL], fun j h0 h4 => ?_, .inl ⟨⟨1, rfl⟩, rfl, rfl⟩, by simp, s1, Nat.le_refl _⟩
    match j, h0, h4 with
    | 1, _, _ => simp [updL]
    | 2, _, _ => simp [updL]
    | 3, _, _ => simp [updL]
  · rintro q fr G ⟨k, v, D, f, a0, z0, c0, hq, hk, hv, g0, g3, g4, bf, f0, fo, sl, hD, sm, gle⟩
    have kk : (0 : Int) ≤ k := by omega
    by_cases hlt : k < N
    · have hlt' : (k : Int) < (N : Int) := by omega
      have hw := wrapS hlt (by omega)
      have l0 := bf.load (i := 0) (by omega)
      rw [f0] at l0
      obtain ⟨H2, e1, e2, e3, e4⟩ := LI.push (i := (k : Int)) sl (by rw [rng_len]) (by omega)
      have rs : rng k ++ [(k : Int)] = rng (k + 1) := by simp [rng, List.range_succ]
      rw [rs] at e4
      have sG := Chg.newRow G [.int .i64 (k : Int)]
      have gb : H2.get H.next = G.get H.next := e3.keep bf.1 fun e => by
        have := hD _ (Sl.ubD sl e)
        omega
      have l0' : loadA (G.newRow [.int .i64 (k : Int)]) H.next 0 1 = some [v] := by rw [sG.ld bf.1]; exact l0
      have l0'' : loadA H2 H.next 0 1 = some [v] := by rw [loadA_congr gb]; exact l0
      have bf2 := bf.keep' (H' := H2) (by omega) gb
      obtain ⟨H3, w1, w2, w3, w4⟩ := bf2.store (i := 0) (by omega) (.slice (some (G.next + 1, 0)) 1 (k + 1) false)
      have sm2 : Sm H H2 := sm.weak e3 fun y hy => by have := hD _ (Sl.ubD sl hy); omega
      subst hv
      simp -implicitDefEqProofs only [g0, g3, g4, hlt', l0, l0', l0'', e1, w1, hw, Nat.zero_add, eqA, eqD, go_sem]
      refine ⟨N - (k + 1), by omega, k + 1, _, fun y => y = G.next + 1, _, _, _, _, rfl, by omega, rfl, rfl, w2, upd_same, fun j h0 h4 => by rw [upd_ne (by omega)]; exact fo j h0 h4, ?_, fun y hy => by omega, sm2.ch (Nat.le_refl _) ⟨w3, w4⟩, by omega⟩
      refine e4.keep (by omega) fun x hx _ => w4 x (by omega)
    · obtain rfl : k = N := by omega
      simp -implicitDefEqProofs only [g0, g3, g4, Int.lt_irrefl, Bool.false_eq_true, eqA, eqD, go_sem]
      refine ⟨⟨f, bf, fun j hj => ?_⟩, sm⟩
      by_cases e : j = 0
      · subst e
        rw [f0]
        exact LI.of_sl sl (by show k = (rng k).length; rw [rng_len]) fun y hy => ⟨by have := hD y hy; omega, hnew y (by have := hD y hy; omega)⟩
      · rw [fo j (by omega) hj]
        refine .inl ⟨?_, none, 1, true, rfl, .inl rfl⟩
        show newMl k j = []
        unfold newMl; rw [if_neg e]
end
set_option maxHeartbeats 4000000
def LW (T : Nat → Nat) (lo : Nat) (H : AHeap) (v : AV) (l : List Int) : Prop := (l = [] ∧ ∃ a s0 cl, v = .slice a s0 0 cl ∧ (a = none ∨ s0 = 1)) ∨ ∃ x o cl, v = .slice (some (x, o)) 1 l.length cl ∧ lo ≤ x ∧ T x = 0 ∧ Rd H x o (l.map fun w => .int .u32 w)
theorem LW.keep {T : Nat → Nat} {lo : Nat} {H H' : AHeap} {v : AV} {l : List Int} (h : LW T lo H v l) (hl : H.next ≤ H'.next) (hg : ∀ x, T x = 0 → x < H.next → H'.get x = H.get x) : LW T lo H' v l := by
  rcases h with h | ⟨x, o, cl, e, h1, h2, h3⟩
  · exact .inl h
  · exact .inr ⟨x, o, cl, e, h1, h2, h3.keep hl (hg x h2 h3.1)⟩
theorem LW.shape {T : Nat → Nat} {lo : Nat} {H : AHeap} {v : AV} {l : List Int} (h : LW T lo H v l) : ∃ a s0 cl, v = .slice a s0 l.length cl := by
  rcases h with ⟨rfl, a, s0, cl, e, -⟩ | ⟨x, o, cl, e, -⟩
  · exact ⟨a, s0, cl, e⟩
  · exact ⟨_, _, _, e⟩
theorem LW.at {T : Nat → Nat} {lo : Nat} {H : AHeap} {a : Option (Nat × Nat)} {s0 n : Nat} {cl : Bool} {l : List Int} (h : LW T lo H (.slice a s0 n cl) l) {j : Nat} (hj : j < l.length) : ∃ x o, a = some (x, o) ∧ s0 = 1 ∧ loadA H x (o + j) 1 = some [.int .u32 l[j]] := by
  rcases h with ⟨rfl, -⟩ | ⟨x, o, cl', e, -, -, hr⟩
  · simp at hj
  · cases e
    exact ⟨x, o, rfl, rfl, hr.one (j := j) (v := .int .u32 l[j]) (by rw [List.getElem?_map, List.getElem?_eq_getElem hj]; rfl)⟩
theorem LW.src {T : Nat → Nat} {lo : Nat} {H : AHeap} {v : AV} {l : List Int} (h : LW T lo H v l) : srcA H 1 false v = some (l.map (fun w => AV.int .u32 w), l.length) := by
  rcases h with ⟨rfl, a, s0, cl, rfl, -⟩ | ⟨x, o, cl, rfl, -, -, hr⟩
  · cases a <;> rfl
  · exact srcA_slice hr (by simp)
structure RA where
  b : Nat
  ml : Nat → Nat
  mp : Nat
  T : Nat → Nat
  lo : Nat
def cellV (p : Int × AV) : AV := .agg [.int .i64 p.1, p.2]
structure RB (R : RA) (H : AHeap) (g : TG) (M : Nat → Ml) (c : Pl → Option (Int × AV)) : Prop where
  tbl : ∃ xt, RefR H R.b xt g ∧ (∀ s, s < 5 → xt (3072 + s) = .ptr (some (R.ml s, 0))) ∧ xt 3077 = .map (some R.mp)
  mil : ∀ s, s < 5 → RMill R.T R.lo H (R.ml s) (M s)
  map : MR pl cellV H R.mp c
  tb_ : R.T R.b = 1
  tm : R.T R.mp = 2
  tl : ∀ s, s < 5 → R.T (R.ml s) = 10 + s
  new : ∀ x, H.next ≤ x → R.T x = 0
  low : ∀ x, R.T x ≠ 0 → R.lo ≤ x
abbrev RA.d (R : RA) (x : Nat) : Prop := R.T x ≠ 0
section
variable {R : RA} {H H' : AHeap} {g : TG} {M : Nat → Ml} {c : Pl → Option (Int × AV)}
theorem RB.lo_ (h : RB R H g M c) : R.lo ≤ H.next := by
  have := h.low R.b (by rw [h.tb_]; omega)
  obtain ⟨xt, hr, -⟩ := h.tbl
  have := hr.blk.1
  omega
theorem RB.gen (h : RB R H g M c) (hl : H.next ≤ H'.next) {k : Nat} (hk0 : k ≠ 0) (hg : ∀ x, x < H.next → R.T x ≠ k → H'.get x = H.get x) {g' : TG} {M' : Nat → Ml} {c' : Pl → Option (Int × AV)}
    (ht : (k ≠ 1 ∧ g' = g) ∨ ∃ xt, RefR H' R.b xt g' ∧ (∀ s, s < 5 → xt (3072 + s) = .ptr (some (R.ml s, 0))) ∧ xt 3077 = .map (some R.mp)) (hm : ∀ s, s < 5 → (k ≠ 10 + s ∧ M' s = M s) ∨ RMill R.T R.lo H' (R.ml s) (M' s)) (hc : (k ≠ 2 ∧ c' = c) ∨ MR pl cellV H' R.mp c') : RB R H' g' M' c' := by
  refine ⟨?_, fun s hs => ?_, ?_, h.tb_, h.tm, h.tl, fun x hx => h.new x (by omega), h.low⟩
  · rcases ht with ⟨e, e2⟩ | e
    · obtain ⟨xt, hr, hx⟩ := h.tbl
      rw [e2]
      exact ⟨xt, hr.keep hl (hg _ hr.blk.1 (by rw [h.tb_]; omega)), hx⟩
    · exact e
  · rcases hm s hs with ⟨e, e2⟩ | e
    · rw [e2]
      exact (h.mil s hs).keep hl (hg _ (h.mil s hs).lt (by rw [h.tl s hs]; omega)) fun x _ hx hlt => hg x hlt (by omega)
    · exact e
  · rcases hc with ⟨e, e2⟩ | e
    · rw [e2]
      exact h.map.keep hl (hg _ h.map.lt (by rw [h.tm]; omega))
    · exact e
theorem RB.sm (h : RB R H g M c) (s : Sm H H') : RB R H' g M c :=
  h.gen (k := 99) s.1 (by omega) (fun x hx _ => s.gt hx) (.inl ⟨by omega, rfl⟩) (fun s _ => .inl ⟨by omega, rfl⟩) (.inl ⟨by omega, rfl⟩)
theorem RB.mill (h : RB R H g M c) {s : Nat} (hs : s < 5) {m : Ml} (hm : RMill R.T R.lo H' (R.ml s) m) (ev : Evo (fun x => x = R.ml s) H H') : RB R H' g (upd M s m) c :=
  h.gen (k := 10 + s) ev.1 (by omega) (fun x hx hk => ev.2 x hx fun e => hk (by rw [e, h.tl s hs])) (.inl ⟨by omega, rfl⟩) (fun t _ => by
    by_cases e : t = s
    · subst e; right; rw [upd_same]; exact hm
    · left; exact ⟨by omega, upd_ne e⟩) (.inl ⟨by omega, rfl⟩)
theorem RB.ldM (h : RB R H g M c) {s : Nat} (hs : s < 5) : loadA H R.b (3072 + s) 1 = some [.ptr (some (R.ml s, 0))] := by
  obtain ⟨xt, hr, hx, -⟩ := h.tbl
  rw [hr.blk.load (i := 3072 + s) (by omega), rcx_ge (by omega), hx s hs]
theorem RB.ldP (h : RB R H g M c) : loadA H R.b 3077 1 = some [.map (some R.mp)] := by
  obtain ⟨xt, hr, -, hx⟩ := h.tbl
  rw [hr.blk.load (i := 3077) (by omega), rcx_ge (by omega), hx]
theorem RB.ld5 (h : RB R H g M c) : ∃ L, loadA H R.b 3072 5 = some L ∧ ∀ k, k < 5 → (L.drop k).take 1 = [.ptr (some (R.ml k, 0))] := by
  obtain ⟨xt, hr, hx, -⟩ := h.tbl
  refine ⟨[.ptr (some (R.ml 0, 0)), .ptr (some (R.ml 1, 0)), .ptr (some (R.ml 2, 0)), .ptr (some (R.ml 3, 0)), .ptr (some (R.ml 4, 0))], (hr.blk.rd (i := 3072) (vs := [.ptr (some (R.ml 0, 0)), .ptr (some (R.ml 1, 0)), .ptr (some (R.ml 2, 0)), .ptr (some (R.ml 3, 0)), .ptr (some (R.ml 4, 0))]) (by simp) fun j v hj => ?_).load rfl, fun k hk => ?_⟩
  · have hj5 : j < 5 := by simpa using (List.getElem?_eq_some_iff.1 hj).1
    rw [rcx_ge (by omega), hx j hj5]
    match j, hj with
    | 0, hj => simpa using hj
    | 1, hj => simpa using hj
    | 2, hj => simpa using hj
    | 3, hj => simpa using hj
    | 4, hj => simpa using hj
  · match k, hk with
    | 0, _ => rfl
    | 1, _ => rfl
    | 2, _ => rfl
    | 3, _ => rfl
    | 4, _ => rfl
end
structure RR (R : RA) (n : Nat → Nat) (H : AHeap) (h : HM) : Prop where
  ok : HOk n h
  rb : ∃ c, RB R H h.g h.M c ∧ ∀ i p, h.g i = some p → ∃ v, c p = some ((h.X p).1, v) ∧ LW R.T R.lo H v (h.X p).2
section
variable {R : RA} {n : Nat → Nat} {H H' : AHeap} {h : HM} {c : Pl → Option (Int × AV)}
theorem RR.sm (hr : RR R n H h) (s : Sm H H') : RR R n H' h := by
  obtain ⟨c, hb, hx⟩ := hr.rb
  refine ⟨hr.ok, c, hb.sm s, fun i p hp => ?_⟩
  obtain ⟨v, h1, h2⟩ := hx i p hp
  exact ⟨v, h1, h2.keep s.1 fun x _ hx => s.gt hx⟩
theorem RR.evoA (hr : RR R n H h) {A : PA} (hA : ∀ x, R.lo ≤ x → A.T x = 0) (ev : Evo A.d H H') : RR R n H' h := by
  obtain ⟨c, hb, hx⟩ := hr.rb
  have kp : ∀ x, R.lo ≤ x → x < H.next → H'.get x = H.get x := fun x h1 h2 => ev.2 x h2 fun hd => hd (hA x h1)
  refine ⟨hr.ok, c, ⟨?_, fun s hs => ?_, ?_, hb.tb_, hb.tm, hb.tl, fun x hx => hb.new x (by have := ev.1; omega), hb.low⟩, fun i p hp => ?_⟩
  · obtain ⟨xt, h1, h2⟩ := hb.tbl
    exact ⟨xt, h1.keep ev.1 (kp _ (hb.low _ (by rw [hb.tb_]; omega)) h1.blk.1), h2⟩
  · exact (hb.mil s hs).keep ev.1 (kp _ (hb.low _ (by rw [hb.tl s hs]; omega)) (hb.mil s hs).lt) fun x h1 _ h2 => kp x h1 h2
  · exact hb.map.keep ev.1 (kp _ (hb.low _ (by rw [hb.tm]; omega)) hb.map.lt)
  · obtain ⟨v, h1, h2⟩ := hx i p hp
    refine ⟨v, h1, ?_⟩
    rcases h2 with h2 | ⟨x, o, cl, e, a1, a2, a3⟩
    · exact .inl h2
    · exact .inr ⟨x, o, cl, e, a1, a2, a3.keep ev.1 (kp x a1 a3.1)⟩
theorem HR.evoR {A : PA} {h' : HM} (hr : HR A n H h') (hR : ∀ x, A.T x ≠ 0 → R.T x = 0) (ev : Evo R.d H H') : HR A n H' h' := by
  obtain ⟨F, hb, hx⟩ := hr.hb
  exact ⟨hr.ok, F, hb.gen (k := 99) ev.1 (fun x hx h0 _ => ev.2 x hx fun hd => hd (hR x h0)) (by omega) (fun s _ => .inl ⟨by omega, rfl⟩) (fun s _ _ => .inl ⟨by omega, rfl⟩) (.inl ⟨by omega, rfl⟩) (.inl (by omega)), hx⟩
theorem c_at0 (hb : RB R H h.g h.M c) {i : Int} (hi : h.g i = none) : CW MN 55 [.ptr (some (R.b, 0)), .int .i64 i] H fun v H' => v = .tuple [.agg [.int .i64 0, .slice none 1 0 true], .agg [.int .i64 0, .int .i64 0], .bool false] ∧ Sm H H' := by
  refine CW_of (fn := af55) rfl ?_
  dsimp only [af55, qm, q, qG, qn, qi, qb, qB, qk, qc, qo, qg, qv, qr]
  have b1 := Blk.new H [.int .i64 0, .slice none 1 0 true] (n := 2) rfl
  have s1 := Chg.newRow H [.int .i64 0, .slice none 1 0 true]
  have n1 : (H.newRow [.int .i64 0, .slice none 1 0 true]).next = H.next + 1 := rfl
  generalize eH1 : H.newRow [.int .i64 0, .slice none 1 0 true] = H1 at *
  have b2 := Blk.new H1 [.int .i64 0, .int .i64 0] (n := 2) rfl
  have s2 := Chg.newRow H1 [.int .i64 0, .int .i64 0]
  have n2 : (H1.newRow [.int .i64 0, .int .i64 0]).next = H1.next + 1 := rfl
  generalize eH2 : H1.newRow [.int .i64 0, .int .i64 0] = H2 at *
  have hb2 := (hb.sm s1).sm s2
  obtain ⟨xt, hr, -⟩ := hb2.tbl
  have b1' := b1.keep' s2.1 (s2.gt (by omega))
  obtain ⟨H3, p1, p2, p3⟩ := b1'.stores (i := 0) (vs := [.int .i64 0, .slice none 1 0 true]) (by simp)
  have b2' := b2.keep' (H' := H3) (by rw [p3.1]; exact Nat.le_refl _) (p3.2 _ (by omega))
  obtain ⟨H4, q1, q2, q3⟩ := b2'.stores (i := 0) (vs := [.int .i64 0, .int .i64 0]) (by simp)
  have p2' := p2.keep' (H' := H4) (by rw [q3.1]; exact Nat.le_refl _) (q3.2 _ (by omega))
  have l1 := p2'.load2 (i := 0) (by omega)
  have l2 := q2.load2 (i := 0) (by omega)
  simp only [updL, List.getElem?_cons_zero, List.getElem?_cons_succ, Nat.le_refl, Nat.zero_le, if_true, Nat.sub_zero, Nat.zero_add] at l1 l2
  simp -implicitDefEqProofs only [eH1, eH2, eqA, eqD, go_sem]
  refine CW.mono (c_Has hr i) ?_
  rintro v H' ⟨rfl, rfl⟩
  rw [hi]
  simp -implicitDefEqProofs only [Option.isSome_none, p1, q1, l1, l2, Bool.false_eq_true, eqA, eqD, go_sem]
  exact ((s1.trans s2).ch (Nat.le_refl _) p3).ch (by omega) q3
end
set_option maxHeartbeats 4000000
section
variable {R : RA} {n : Nat → Nat} {H H' : AHeap} {h : HM} {c : Pl → Option (Int × AV)}
theorem ld2 {b : Nat} {x y : AV} {f : Nat → AV} (h : Blk H b 2 (updL f 0 [x, y])) : loadA H b 0 2 = some [x, y] ∧ loadA H b 0 1 = some [x] ∧ loadA H b 1 1 = some [y] := by
  have l := h.load2 (i := 0) (by omega)
  have l0 := h.load (i := 0) (by omega)
  have l1 := h.load (i := 1) (by omega)
  simp only [updL, List.getElem?_cons_zero, List.getElem?_cons_succ, Nat.le_refl, Nat.zero_le, if_true, Nat.sub_zero, Nat.zero_add] at l l0 l1
  exact ⟨l, l0, l1⟩
theorem c_at1 (hb : RB R H h.g h.M c) {i : Int} {p : Pl} (hi : h.g i = some p) {cls : Int} {a : Option (Nat × Nat)} {s0 len : Nat} {cl : Bool} (hc : c p = some (cls, .slice a s0 len cl)) : CW MN 55 [.ptr (some (R.b, 0)), .int .i64 i] H fun v H' => v = .tuple [.agg [.int .i64 cls, .slice a s0 len cl], .agg [.int .i64 p.1, .int .i64 p.2], .bool true] ∧ Sm H H' := by
  refine CW_of (fn := af55) rfl ?_
  dsimp only [af55, qm, q, qG, qn, qi, qb, qB, qk, qc, qo, qg, qv, qr]
  have b1 := Blk.new H [.int .i64 0, .slice none 1 0 true] (n := 2) rfl
  have s1 := Chg.newRow H [.int .i64 0, .slice none 1 0 true]
  have n1 : (H.newRow [.int .i64 0, .slice none 1 0 true]).next = H.next + 1 := rfl
  generalize eH1 : H.newRow [.int .i64 0, .slice none 1 0 true] = H1 at *
  have b2 := Blk.new H1 [.int .i64 0, .int .i64 0] (n := 2) rfl
  have s2 := Chg.newRow H1 [.int .i64 0, .int .i64 0]
  have n2 : (H1.newRow [.int .i64 0, .int .i64 0]).next = H1.next + 1 := rfl
  generalize eH2 : H1.newRow [.int .i64 0, .int .i64 0] = H2 at *
  have hb2 := (hb.sm s1).sm s2
  obtain ⟨xt, hr, -⟩ := hb2.tbl
  have hd := hr.dom i p hi
  have i0 : 0 ≤ i := by omega
  have i1 := hd.2
  have lP := hb2.ldP
  have la := hr.ldAt i0 i1
  rw [hi] at la
  simp only [Option.getD_some] at la
  have lk : lookA (.parts [(0, 1, .sc .int), (1, 1, .sc .int)]) (.agg [.int .i64 0, .slice none 1 0 true]) false H2 R.mp (.agg [.int .i64 p.1, .int .i64 p.2]) = some (.agg [.int .i64 cls, .slice a s0 len cl], H2) := hb2.map.look_yes keyed_two hc
  have b1' := b1.keep' s2.1 (s2.gt (by omega))
  obtain ⟨H3, p1, p2, p3⟩ := b1'.stores (i := 0) (vs := [.int .i64 cls, .slice a s0 len cl]) (by simp)
  have b2' := b2.keep' (H' := H3) (by rw [p3.1]; exact Nat.le_refl _) (p3.2 _ (by omega))
  obtain ⟨H4, q1, q2, q3⟩ := b2'.stores (i := 0) (vs := [.int .i64 p.1, .int .i64 p.2]) (by simp)
  have p2' := p2.keep' (H' := H4) (by rw [q3.1]; exact Nat.le_refl _) (q3.2 _ (by omega))
  have l1 := (ld2 p2').1
  have l2 := (ld2 q2).1
  have hbn : R.b ≠ H.next := by have := hr.blk.1; have := (hb.tbl).choose_spec.1.blk.1; omega
  have la3 : loadA H3 R.b (1024 + i.toNat * 2) 2 = some [.int .i64 p.1, .int .i64 p.2] := by rw [p3.load hbn]; exact la
  simp -implicitDefEqProofs only [eH1, eH2, eqA, eqD, go_sem]
  refine CW.mono (c_Has hr i) ?_
  rintro v H' ⟨rfl, rfl⟩
  rw [hi]
  simp -implicitDefEqProofs only [Option.isSome_some, i0, i1, lP, la, la3, lk, p1, q1, l1, l2, Nat.zero_add, Bool.false_eq_true, eqA, eqD, go_sem]
  exact ((s1.trans s2).ch (Nat.le_refl _) p3).ch (by omega) q3
theorem two_new (H : AHeap) (z1 z2 w1 w2 x1 x2 y1 y2 : AV) : ∃ H1 H2 H3 H4, H.newRow [z1, z2] = H1 ∧ H1.newRow [w1, w2] = H2 ∧ storeA H2 H.next 0 [x1, x2] = some H3 ∧ storeA H3 H1.next 0 [y1, y2] = some H4 ∧ Sm H H4 ∧ (∃ f, Blk H4 H.next 2 (updL f 0 [x1, x2])) ∧ (∃ f, Blk H4 H1.next 2 (updL f 0 [y1, y2])) ∧ H4.next = H.next + 2 ∧ H1.next = H.next + 1 := by
  have b1 := Blk.new H [z1, z2] (n := 2) rfl
  have s1 := Chg.newRow H [z1, z2]
  have n1 : (H.newRow [z1, z2]).next = H.next + 1 := rfl
  refine ⟨H.newRow [z1, z2], (H.newRow [z1, z2]).newRow [w1, w2], ?_⟩
  generalize H.newRow [z1, z2] = H1 at *
  have b2 := Blk.new H1 [w1, w2] (n := 2) rfl
  have s2 := Chg.newRow H1 [w1, w2]
  have n2 : (H1.newRow [w1, w2]).next = H1.next + 1 := rfl
  generalize H1.newRow [w1, w2] = H2 at *
  have b1' := b1.keep' s2.1 (s2.gt (by omega))
  obtain ⟨H3, p1, p2, p3⟩ := b1'.stores (i := 0) (vs := [x1, x2]) (by simp)
  have b2' := b2.keep' (H' := H3) (by rw [p3.1]; exact Nat.le_refl _) (p3.2 _ (by omega))
  obtain ⟨H4, q1, q2, q3⟩ := b2'.stores (i := 0) (vs := [y1, y2]) (by simp)
  have p2' := p2.keep' (H' := H4) (by rw [q3.1]; exact Nat.le_refl _) (q3.2 _ (by omega))
  exact ⟨H3, H4, rfl, rfl, p1, q1, ((s1.trans s2).ch (Nat.le_refl _) p3).ch (by omega) q3, ⟨_, p2'⟩, ⟨_, q2⟩, by rw [q3.1, p3.1, n2, n1], n1⟩
end
set_option maxHeartbeats 4000000
section
variable {R : RA} {n : Nat → Nat} {H H' : AHeap} {h : HM} {c : Pl → Option (Int × AV)}
theorem c_rClass (hr : RR R n H h) (i : Int) : CW MN 75 [.ptr (some (R.b, 0)), .int .i64 i] H fun v H' => v = .int .i64 (match obM h i with | none => -1 | some x => x.1) ∧ Sm H H' := by
  refine CW_of (fn := af75) rfl ?_
  dsimp only [af75, qm, q, qG, qn, qi, qb, qB, qk, qc, qo, qg, qv, qr]
  obtain ⟨c, hb, hx⟩ := hr.rb
  cases hi : h.g i with
  | none =>
    have e : obM h i = none := by unfold obM; rw [hi]; rfl
    rw [e]
    simp -implicitDefEqProofs only [eqA, eqD, go_sem]
    refine CW.mono (c_at0 hb hi) ?_
    rintro v H1 ⟨rfl, s1⟩
    obtain ⟨H2, H3, H4, H5, e1, e2, e3, e4, s5, -⟩ := two_new H1 (.int .i64 0) (.slice none 1 0 true) (.int .i64 0) (.int .i64 0) (.int .i64 0) (.slice none 1 0 true) (.int .i64 0) (.int .i64 0)
    simp -implicitDefEqProofs only [e1, e2, e3, e4, Bool.not_false, eqA, eqD, go_sem]
    exact s1.trans s5
  | some p =>
    have e : obM h i = some (h.X p) := by unfold obM; rw [hi]; rfl
    rw [e]
    obtain ⟨u, hc, lw⟩ := hx i p hi
    obtain ⟨a, s0, cl, rfl⟩ := lw.shape
    simp -implicitDefEqProofs only [eqA, eqD, go_sem]
    refine CW.mono (c_at1 hb hi hc) ?_
    rintro v H1 ⟨rfl, s1⟩
    obtain ⟨H2, H3, H4, H5, e1, e2, e3, e4, s5, ⟨f, bf⟩, -⟩ := two_new H1 (.int .i64 0) (.slice none 1 0 true) (.int .i64 0) (.int .i64 0) (.int .i64 (h.X p).1) (.slice a s0 (h.X p).2.length cl) (.int .i64 p.1) (.int .i64 p.2)
    have l0 := (ld2 bf).2.1
    simp -implicitDefEqProofs only [e1, e2, e3, e4, l0, Bool.not_true, Bool.false_eq_true, eqA, eqD, go_sem]
    exact s1.trans s5
theorem c_rFields (hr : RR R n H h) (i : Int) : CW MN 76 [.ptr (some (R.b, 0)), .int .i64 i] H fun v H' => v = .int .i64 (match obM h i with | none => -1 | some x => x.2.length) ∧ Sm H H' := by
  refine CW_of (fn := af76) rfl ?_
  dsimp only [af76, qm, q, qG, qn, qi, qb, qB, qk, qc, qo, qg, qv, qr]
  obtain ⟨c, hb, hx⟩ := hr.rb
  cases hi : h.g i with
  | none =>
    have e : obM h i = none := by unfold obM; rw [hi]; rfl
    rw [e]
    simp -implicitDefEqProofs only [eqA, eqD, go_sem]
    refine CW.mono (c_at0 hb hi) ?_
    rintro v H1 ⟨rfl, s1⟩
    obtain ⟨H2, H3, H4, H5, e1, e2, e3, e4, s5, -⟩ := two_new H1 (.int .i64 0) (.slice none 1 0 true) (.int .i64 0) (.int .i64 0) (.int .i64 0) (.slice none 1 0 true) (.int .i64 0) (.int .i64 0)
    simp -implicitDefEqProofs only [e1, e2, e3, e4, Bool.not_false, eqA, eqD, go_sem]
    exact s1.trans s5
  | some p =>
    have e : obM h i = some (h.X p) := by unfold obM; rw [hi]; rfl
    rw [e]
    obtain ⟨u, hc, lw⟩ := hx i p hi
    obtain ⟨a, s0, cl, rfl⟩ := lw.shape
    simp -implicitDefEqProofs only [eqA, eqD, go_sem]
    refine CW.mono (c_at1 hb hi hc) ?_
    rintro v H1 ⟨rfl, s1⟩
    obtain ⟨H2, H3, H4, H5, e1, e2, e3, e4, s5, ⟨f, bf⟩, -⟩ := two_new H1 (.int .i64 0) (.slice none 1 0 true) (.int .i64 0) (.int .i64 0) (.int .i64 (h.X p).1) (.slice a s0 (h.X p).2.length cl) (.int .i64 p.1) (.int .i64 p.2)
    have l0 := (ld2 bf).2.2
    simp -implicitDefEqProofs only [e1, e2, e3, e4, l0, Bool.not_true, Bool.false_eq_true, eqA, eqD, go_sem]
    exact s1.trans s5
theorem c_rGet (hr : RR R n H h) (i k : Int) : CW MN 77 [.ptr (some (R.b, 0)), .int .i64 i, .int .i64 k] H fun v H' => v = .tuple [.int .u32 ((getM h i k).getD 0), .bool (getM h i k).isSome] ∧ Sm H H' := by
  refine CW_of (fn := af77) rfl ?_
  dsimp only [af77, qm, q, qG, qn, qi, qb, qB, qk, qc, qo, qg, qv, qr]
  obtain ⟨c, hb, hx⟩ := hr.rb
  cases hi : h.g i with
  | none =>
    have e : getM h i k = none := by unfold getM obM; rw [hi]; rfl
    rw [e]
    simp -implicitDefEqProofs only [eqA, eqD, go_sem]
    refine CW.mono (c_at0 hb hi) ?_
    rintro v H1 ⟨rfl, s1⟩
    obtain ⟨H2, H3, H4, H5, e1, e2, e3, e4, s5, -⟩ := two_new H1 (.int .i64 0) (.slice none 1 0 true) (.int .i64 0) (.int .i64 0) (.int .i64 0) (.slice none 1 0 true) (.int .i64 0) (.int .i64 0)
    simp -implicitDefEqProofs only [e1, e2, e3, e4, Bool.not_false, Option.getD_none, Option.isSome_none, eqA, eqD, go_sem]
    exact s1.trans s5
  | some p =>
    have e : getM h i k = if 0 ≤ k then (h.X p).2[k.toNat]? else none := by unfold getM obM; rw [hi]; rfl
    rw [e]
    obtain ⟨u, hc, lw⟩ := hx i p hi
    obtain ⟨a, s0, cl, rfl⟩ := lw.shape
    simp -implicitDefEqProofs only [eqA, eqD, go_sem]
    refine CW.mono (c_at1 hb hi hc) ?_
    rintro v H1 ⟨rfl, s1⟩
    obtain ⟨H2, H3, H4, H5, e1, e2, e3, e4, s5, ⟨f, bf⟩, -⟩ := two_new H1 (.int .i64 0) (.slice none 1 0 true) (.int .i64 0) (.int .i64 0) (.int .i64 (h.X p).1) (.slice a s0 (h.X p).2.length cl) (.int .i64 p.1) (.int .i64 p.2)
    have l0 := (ld2 bf).2.2
    have lw5 := lw.keep (s1.trans s5).1 fun x _ hx => (s1.trans s5).gt hx
    by_cases k0 : k < 0
    · rw [if_neg (by omega)]
      simp -implicitDefEqProofs only [e1, e2, e3, e4, l0, k0, Bool.not_true, Bool.false_eq_true, Option.getD_none, Option.isSome_none, eqA, eqD, go_sem]
      exact s1.trans s5
    · rw [if_pos (by omega)]
      by_cases k1 : ((h.X p).2.length : Int) ≤ k
      · rw [List.getElem?_eq_none (by omega)]
        simp -implicitDefEqProofs only [e1, e2, e3, e4, l0, k0, k1, Bool.not_true, Bool.false_eq_true, Option.getD_none, Option.isSome_none, eqA, eqD, go_sem]
        exact s1.trans s5
      · have k2 : k.toNat < (h.X p).2.length := by omega
        rw [List.getElem?_eq_getElem k2]
        obtain ⟨x, o, rfl, rfl, ld⟩ := lw5.at k2
        have k3 : 0 ≤ k := by omega
        have k4 : k < ((h.X p).2.length : Int) := by omega
        simp -implicitDefEqProofs only [e1, e2, e3, e4, l0, k0, k1, k3, k4, ld, Bool.not_true, Bool.false_eq_true, Option.getD_some, Option.isSome_some, eqA, eqD, go_sem]
        exact s1.trans s5
end
set_option maxHeartbeats 4000000
section
variable {R : RA} {n : Nat → Nat} {H H' : AHeap} {h : HM} {c : Pl → Option (Int × AV)}
theorem c_rID {w : Nat} (hw : w < 4294967296) : CW MN 13 [.int .u32 w] H fun v H' => v = .tuple [.int .i64 ((idP (w : Int)).getD 0), .bool (idP (w : Int)).isSome] ∧ H' = H := by
  refine CW_of (fn := af13) rfl ?_
  dsimp only [af13, qm, q, qG, qn, qi, qb, qB, qk, qc, qo, qg, qv, qr]
  have a1 : binA .and (.sc .int) (.int .u32 (w : Int)) (.int .u32 1) = some (.int .u32 ((w % 2 : Nat) : Int)) := andA (k := 1) (by omega) hw
  have a2 : binA .shr (.sc .int) (.int .u32 (w : Int)) (.int .u64 1) = some (.int .u32 ((w / 2 : Nat) : Int)) := shrA (k := 1) (by omega)
  have e1 : ∀ G, convA (.int .i64) (.int .u32 ((w / 2 : Nat) : Int)) G = some (.int .i64 ((w / 2 : Nat) : Int), G) := fun G => conv64 (by omega)
  have z01 : ((0 : Int) == 1) = false := rfl
  unfold idP
  by_cases h1 : w % 2 = 1
  · have h1' : (w : Int) % 2 = 1 := by omega
    rw [if_pos (.inl h1')]
    have a1' := a1
    rw [h1] at a1'
    have c1 : ((1 : Nat) : Int) = 1 := rfl
    rw [c1] at a1'
    simp -implicitDefEqProofs only [↓a1', Option.getD_none, Option.isSome_none, eqA, eqD, go_sem]
  · have h0 : w % 2 = 0 := by omega
    have a1' := a1
    rw [h0] at a1'
    have c1 : ((0 : Nat) : Int) = 0 := rfl
    rw [c1] at a1'
    by_cases hz : w = 0
    · have hz' : ((w : Int) == 0) = true := by simp [hz]
      rw [if_pos (.inr (by omega))]
      simp -implicitDefEqProofs only [↓a1', z01, hz', Option.getD_none, Option.isSome_none, Bool.false_eq_true, eqA, eqD, go_sem]
    · have hz' : ((w : Int) == 0) = false := by simp; omega
      rw [if_neg (by omega)]
      have ed : ((w : Int) / 2) = ((w / 2 : Nat) : Int) := by omega
      rw [ed]
      simp -implicitDefEqProofs only [↓a1', z01, ↓a2, e1, hz', Option.getD_some, Option.isSome_some, Bool.false_eq_true, eqA, eqD, go_sem]
theorem c_rOop {i : Nat} (h1 : 1 ≤ i) (h2 : i ≤ 2147483647) : CW MN 62 [.int .i64 i] H fun v H' => v = .int .u32 ((2 * i : Nat) : Int) ∧ H' = H := by
  refine CW_of (fn := af62) rfl ?_
  dsimp only [af62, qm, q, qG, qn, qi, qb, qB, qk, qc, qo, qg, qv, qr]
  have i1 : ¬ (i : Int) < 1 := by omega
  have i2 : ¬ (2147483647 : Int) < i := by omega
  have e1 : ∀ G, convA (.int .u32) (.int .i64 (i : Int)) G = some (.int .u32 (i : Int), G) := fun G => conv32 (by omega)
  have f1 : binA .shl (.sc .int) (.int .u32 (i : Int)) (.int .u64 1) = some (.int .u32 ((2 * i : Nat) : Int)) := shlA (k := 1) (by omega) (by omega)
  simp -implicitDefEqProofs only [i1, i2, e1, ↓f1, Bool.false_eq_true, eqA, eqD, go_sem]
theorem RR.millS (hr : RR R n H h) {s : Nat} (hs : s < 5) {m : Ml} (ok : HOk n { h with M := upd h.M s m }) (hm : RMill R.T R.lo H' (R.ml s) m) (ev : Evo (fun x => x = R.ml s) H H') : RR R n H' { h with M := upd h.M s m } ∧ Evo R.d H H' := by
  obtain ⟨c, hb, hx⟩ := hr.rb
  have dm : R.d (R.ml s) := by show R.T _ ≠ 0; rw [hb.tl s hs]; omega
  have ev' : Evo R.d H H' := (Evo.refl R.d H).then ev fun x _ e => by rw [e]; exact dm
  refine ⟨⟨ok, c, hb.mill hs hm ev, fun i p hp => ?_⟩, ev'⟩
  obtain ⟨v, h1, h2⟩ := hx i p hp
  exact ⟨v, h1, h2.keep ev'.1 fun x hT hx => ev'.2 x hx fun hd => hd hT⟩
theorem RB.dm (hb : RB R H h.g h.M c) {s : Nat} (hs : s < 5) : R.T (R.ml s) ≠ 0 := by rw [hb.tl s hs]; omega
theorem c_rColorH (hr : RR R n H h) (i : Int) : CW MN 60 [.ptr (some (R.b, 0)), .int .i64 i] H fun v H' => v = .int .i64 (colorM h i) ∧ Sm H H' := by
  refine CW_of (fn := af60) rfl ?_
  dsimp only [af60, qm, q, qG, qn, qi, qb, qB, qk, qc, qo, qg, qv, qr]
  obtain ⟨c, hb, hx⟩ := hr.rb
  unfold colorM
  cases hi : h.g i with
  | none =>
    simp -implicitDefEqProofs only [eqA, eqD, go_sem]
    refine CW.mono (c_at0 hb hi) ?_
    rintro v H1 ⟨rfl, s1⟩
    obtain ⟨H2, H3, H4, H5, e1, e2, e3, e4, s5, -⟩ := two_new H1 (.int .i64 0) (.slice none 1 0 true) (.int .i64 0) (.int .i64 0) (.int .i64 0) (.slice none 1 0 true) (.int .i64 0) (.int .i64 0)
    simp -implicitDefEqProofs only [e1, e2, e3, e4, Bool.not_false, eqA, eqD, go_sem]
    exact s1.trans s5
  | some p =>
    obtain ⟨s, d, rfl, hs, hd, hn, -⟩ := hr.ok.place hi
    obtain ⟨u, hc, lw⟩ := hx i _ hi
    obtain ⟨a, s0, cl, rfl⟩ := lw.shape
    simp -implicitDefEqProofs only [eqA, eqD, go_sem]
    refine CW.mono (c_at1 hb hi hc) ?_
    rintro v H1 ⟨rfl, s1⟩
    obtain ⟨H2, H3, H4, H5, e1, e2, e3, e4, s5, -, ⟨f, bf⟩, -⟩ := two_new H1 (.int .i64 0) (.slice none 1 0 true) (.int .i64 0) (.int .i64 0) (.int .i64 (h.X ((s : Int), (d : Int))).1) (.slice a s0 (h.X ((s : Int), (d : Int))).2.length cl) (.int .i64 s) (.int .i64 d)
    obtain ⟨-, l0, l1⟩ := ld2 bf
    have sm := s1.trans s5
    have hb5 := hb.sm sm
    have lm := hb5.ldM hs
    have s00 : (0 : Int) ≤ s := by omega
    have s05 : (s : Int) < 5 := by omega
    simp -implicitDefEqProofs only [e1, e2, e3, e4, l0, l1, lm, s00, s05, Bool.not_true, Bool.false_eq_true, eqA, eqD, go_sem]
    refine CW.mono (c_rColor (hb5.mil s hs) (hr.ok.mill s hs) (hr.ok.max s hs) d) ?_
    rintro v H6 ⟨rfl, rfl⟩
    simp -implicitDefEqProofs only [l0, l1, lm, eqA, eqD, go_sem]
    exact sm
theorem c_rShadeH (hr : RR R n H h) {w : Nat} (hw : w < 4294967296) : CW MN 57 [.ptr (some (R.b, 0)), .int .u32 w] H fun _ H' => RR R n H' (shadeM h w) ∧ Evo R.d H H' := by
  refine CW_of (fn := af57) rfl ?_
  dsimp only [af57, qm, q, qG, qn, qi, qb, qB, qk, qc, qo, qg, qv, qr]
  have ok' := hr.ok.shade w
  obtain ⟨c, hb, hx⟩ := hr.rb
  obtain ⟨xt, ht, -⟩ := hb.tbl
  simp -implicitDefEqProofs only [eqA, eqD, go_sem]
  refine CW.mono (c_rID hw) ?_
  rintro v H' ⟨rfl, rfl⟩
  unfold shadeM at ok' ⊢
  cases hid : idP (w : Int) with
  | none =>
    simp -implicitDefEqProofs only [Option.getD_none, Option.isSome_none, Bool.false_eq_true, eqA, eqD, go_sem]
    exact ⟨hr, Evo.refl _ _⟩
  | some i =>
    rw [hid] at ok'
    dsimp only at ok'
    simp -implicitDefEqProofs only [Option.getD_some, Option.isSome_some, Bool.false_eq_true, eqA, eqD, go_sem]
    refine CW.mono (c_Has ht i) ?_
    rintro v H' ⟨rfl, rfl⟩
    cases hi : h.g i with
    | none =>
      simp -implicitDefEqProofs only [Option.isSome_none, Bool.false_eq_true, eqA, eqD, go_sem]
      exact ⟨hr, Evo.refl _ _⟩
    | some p =>
      rw [hi] at ok'
      obtain ⟨s, d, rfl, hs, hd, hn, -⟩ := hr.ok.place hi
      have hdm := ht.dom i _ hi
      have i0 : 0 ≤ i := by omega
      have i1 := hdm.2
      have la := ht.ldAt i0 i1
      rw [hi] at la
      simp only [Option.getD_some] at la
      obtain ⟨H2, q1, q2, q3, q4⟩ := store_new H' [.int .i64 0, .int .i64 0] [.int .i64 s, .int .i64 d] rfl
      have hb2 := hb.sm q3
      have l0 := q4.one (j := 0) (v := .int .i64 s) rfl
      have l1 := q4.one (j := 1) (v := .int .i64 d) rfl
      rw [Nat.zero_add] at l1
      have lm := hb2.ldM hs
      have s0 : (0 : Int) ≤ s := by omega
      have s5 : (s : Int) < 5 := by omega
      simp -implicitDefEqProofs only [i0, i1, la, q1, l0, l1, lm, s0, s5, Option.isSome_some, Nat.zero_add, Bool.false_eq_true, eqA, eqD, go_sem]
      refine CW.mono (c_rShade (hb2.mil s hs) (hr.ok.mill s hs) (hr.ok.max s hs) (hb2.dm hs) hb2.lo_ hb2.new d) ?_
      rintro v H3 ⟨m3, ev3⟩
      obtain ⟨r1, r2⟩ := (hr.sm q3).millS hs ok' m3 ev3
      simp -implicitDefEqProofs only [l0, l1, lm, eqA, eqD, go_sem]
      exact ⟨r1, (Evo.of_sm (D := R.d) q3).then r2 fun _ _ h => h⟩
def RowX (R : RA) (H : AHeap) (v : AV) (l : List Int) : Prop := ∃ a s0 cl, v = .slice a s0 l.length cl ∧ l.length ≤ 9223372036854775807 ∧ (∀ w, w ∈ l → U32 w) ∧ (l.length ≠ 0 → ∃ x o, a = some (x, o) ∧ R.T x = 0 ∧ Rd H x o (l.map fun w => .int .u32 w))
theorem RowX.keep {v : AV} {l : List Int} (h : RowX R H v l) (ev : Evo R.d H H') : RowX R H' v l := by
  obtain ⟨a, s0, cl, e, hm, hu, hr⟩ := h
  refine ⟨a, s0, cl, e, hm, hu, fun h0 => ?_⟩
  obtain ⟨x, o, e, hT, hr⟩ := hr h0
  exact ⟨x, o, e, hT, hr.keep ev.1 (ev.2 x hr.1 fun hd => hd hT)⟩
theorem RowX.at {a : Option (Nat × Nat)} {s0 m : Nat} {cl : Bool} {l : List Int} (h : RowX R H (.slice a s0 m cl) l) {j : Nat} (hj : j < l.length) : ∃ x o, a = some (x, o) ∧ loadA H x (o + j) 1 = some [.int .u32 l[j]] := by
  obtain ⟨a', s0', cl', e, hm, hu, hr⟩ := h
  cases e
  obtain ⟨x, o, rfl, -, hr⟩ := hr (by omega)
  exact ⟨x, o, rfl, hr.one (j := j) (v := .int .u32 l[j]) (by rw [List.getElem?_map, List.getElem?_eq_getElem hj]; rfl)⟩
theorem c_rHold (hr : RR R n H h) {v : AV} {l : List Int} (hl : RowX R H v l) : CW MN 20 [.ptr (some (R.b, 0)), v] H fun _ H' => RR R n H' (holdM h l) ∧ Evo R.d H H' := by
  refine CW_of (fn := af20) rfl ?_
  dsimp only [af20, qm, q, qG, qn, qi, qb, qB, qk, qc, qo, qg, qv, qr]
  have hl0 := hl
  obtain ⟨a, s0, cl, rfl, hm, hu, -⟩ := hl
  simp -implicitDefEqProofs only [eqA, eqD, go_sem]
  refine WP_mono (Q := fun ex fr H' => ex = .exit 0 ∧ RR R n H' (holdM h l) ∧ Evo R.d H H') ?_ (WP_loop (fun m fr H' => ∃ j : Nat, m = l.length - j ∧ j ≤ l.length ∧ fr.get 0 = some (.ptr (some (R.b, 0))) ∧ fr.get 6 = some (.slice a s0 l.length cl) ∧ fr.get 7 = some (.int .i64 l.length) ∧ fr.get 8 = some (.int .i64 j) ∧ RR R n H' (holdM h (l.take j)) ∧ Evo R.d H H') l.length ?_ ?_)
  · rintro ex fr H' ⟨rfl, h1⟩
    simp -implicitDefEqProofs only [eqA, eqD, go_sem]
    exact h1
  · refine ⟨0, rfl, by omega, ?_⟩
    simp -implicitDefEqProofs only [eqA, eqD, go_sem]
    exact ⟨hr, Evo.refl _ _⟩
  · rintro m fr H1 ⟨j, hm', hj, g0, g6, g7, g8, hr1, ev1⟩
    have j0 : (0 : Int) ≤ j := by omega
    by_cases hlt : j < l.length
    · have hlt' : (j : Int) < (l.length : Int) := by omega
      have hw := wrapS hlt hm
      obtain ⟨x, o, rfl, ld⟩ := (hl0.keep ev1).at hlt
      have hub := hu _ (List.getElem_mem hlt)
      obtain ⟨w, hwe⟩ := Int.eq_ofNat_of_zero_le hub.1
      rw [hwe] at ld
      have hu2 : w < 4294967296 := by have := hub.2; omega
      simp -implicitDefEqProofs only [g0, g6, g7, g8, hlt', j0, ld, eqA, eqD, go_sem]
      refine CW.mono (c_rShadeH hr1 hu2) ?_
      rintro v H2 ⟨hr2, ev2⟩
      have e : holdM h (l.take (j + 1)) = shadeM (holdM h (l.take j)) w := by
        unfold holdM
        rw [List.take_add_one, List.getElem?_eq_getElem hlt, hwe, Option.toList_some, List.foldl_append]; rfl
      simp -implicitDefEqProofs only [g0, g6, g7, g8, hw, eqA, eqD, go_sem]
      exact ⟨l.length - (j + 1), by omega, j + 1, rfl, by omega, rfl, by rw [e]; exact hr2, ev1.then ev2 fun _ _ h => h⟩
    · obtain rfl : j = l.length := by omega
      rw [List.take_length] at hr1
      simp -implicitDefEqProofs only [g0, g6, g7, g8, Int.lt_irrefl, Bool.false_eq_true, eqA, eqD, go_sem]
      exact ⟨hr1, ev1⟩
theorem RMill.ldK {T : Nat → Nat} {lo b : Nat} {m : Ml} (hm : RMill T lo H b m) {k : Nat} (hk : k < 4) : ∃ a s0 cl, loadA H b k 1 = some [.slice a s0 (m k).length cl] ∧ LI T lo H (.slice a s0 (m k).length cl) (m k) := by
  obtain ⟨f, hf, hl⟩ := hm.blk
  obtain ⟨a, s0, cl, e, -⟩ := (hl k hk).shape
  refine ⟨a, s0, cl, by rw [hf.load hk, e], ?_⟩
  have := hl k hk
  rwa [e] at this
theorem c_rDone (hr : RR R n H h) : CW MN 66 [.ptr (some (R.b, 0))] H fun v H' => v = .bool (greyM h).isNone ∧ H' = H := by
  refine CW_of (fn := af66) rfl ?_
  dsimp only [af66, qm, q, qG, qn, qi, qb, qB, qk, qc, qo, qg, qv, qr]
  obtain ⟨c, hb, hx⟩ := hr.rb
  obtain ⟨G, hG⟩ : ∃ G, G = (greyM h).isNone := ⟨_, rfl⟩
  rw [← hG]
  obtain ⟨L, hL, hd⟩ := hb.ld5
  simp -implicitDefEqProofs only [hL, eqA, eqD, go_sem]
  refine WP_loop (fun m fr H' => ∃ k : Nat, m = 5 - k ∧ k ≤ 5 ∧ (∀ t, t < k → h.M t 2 = []) ∧ fr.get 8 = some (.agg L) ∧ fr.get 9 = some (.int .i64 k) ∧ H' = H) 5 ?_ ?_
  · refine ⟨0, rfl, by omega, fun t ht => by omega, ?_⟩
    simp -implicitDefEqProofs only [eqA, eqD, go_sem]
  · rintro m fr H' ⟨k, hm, hk, hno, g8, g9, rfl⟩
    have k0 : (0 : Int) ≤ k := by omega
    by_cases hlt : k < 5
    · have hlt' : (k : Int) < 5 := by omega
      have hw := wrapS hlt (by omega)
      have hdk := hd k hlt
      obtain ⟨a, s0, cl, lk, -⟩ := (hb.mil k hlt).ldK (k := 2) (by omega)
      by_cases he : h.M k 2 = []
      · have e0 : (((h.M k 2).length : Nat) : Int) = 0 := by rw [he]; rfl
        simp -implicitDefEqProofs only [g8, g9, hlt', k0, hdk, lk, e0, hw, Int.lt_irrefl, Bool.false_eq_true, eqA, eqD, go_sem]
        refine ⟨5 - (k + 1), by omega, k + 1, rfl, by omega, fun t ht => ?_, rfl⟩
        by_cases e : t = k
        · subst e; exact he
        · exact hno t (by omega)
      · have e0 : (0 : Int) < (((h.M k 2).length : Nat) : Int) := by
          have := List.length_pos_iff.2 he
          omega
        have eg : G = false := by rw [hG, greyM_of_some hlt he hno]; rfl
        simp -implicitDefEqProofs only [g8, g9, hlt', k0, hdk, lk, e0, eg, eqA, eqD, go_sem]
    · obtain rfl : k = 5 := by omega
      have e5 : ¬ ((5 : Nat) : Int) < 5 := by omega
      have eg : G = true := by rw [hG, greyM_of_none hno]; rfl
      simp -implicitDefEqProofs only [g8, g9, e5, eg, Int.lt_irrefl, Bool.false_eq_true, eqA, eqD, go_sem]
end
set_option maxHeartbeats 4000000
section
variable {R : RA} {n : Nat → Nat} {H H' : AHeap} {h : HM} {c : Pl → Option (Int × AV)}
theorem RR.evS (hr : RR R n H h) (s : Sm H H') : RR R n H' h ∧ Evo R.d H H' := ⟨hr.sm s, Evo.of_sm s⟩
theorem c_rSwap (hr : RR R n H h) (a b : Int) : CW MN 18 [.ptr (some (R.b, 0)), .int .i64 a, .int .i64 b] H fun v H' => v = .bool (swapM h a b).1 ∧ RR R n H' (swapM h a b).2 ∧ Evo R.d H H' := by
  refine CW_of (fn := af18) rfl ?_
  dsimp only [af18, qm, q, qG, qn, qi, qb, qB, qk, qc, qo, qg, qv, qr]
  simp -implicitDefEqProofs only [eqA, eqD, go_sem]
  refine CW.mono (c_rColorH hr a) ?_
  rintro v H1 ⟨rfl, s1⟩
  simp -implicitDefEqProofs only [eqA, eqD, go_sem]
  refine CW.mono (c_rColorH (hr.sm s1) b) ?_
  rintro v H2 ⟨rfl, s2⟩
  have s12 := s1.trans s2
  have hr2 := hr.sm s12
  have ok4 : HOk n { h with g := swG h.g a b } := hr.ok.sw a b
  obtain ⟨c, hb, hx⟩ := hr2.rb
  obtain ⟨xt, ht, ht1, ht2⟩ := hb.tbl
  simp -implicitDefEqProofs only [eqA, eqD, go_sem]
  refine CW.mono (c_SwapR ht a b) ?_
  rintro v H3 ⟨rfl, t3, ev3⟩
  have db : R.d R.b := by show R.T _ ≠ 0; rw [hb.tb_]; omega
  have ev3' : Evo R.d H2 H3 := (Evo.refl R.d H2).then ev3 fun x _ e => by rw [e]; exact db
  have ev13 : Evo R.d H H3 := (Evo.of_sm (D := R.d) s12).then ev3' fun _ _ h => h
  have hb3 : RB R H3 (swG h.g a b) h.M c := hb.gen (k := 1) ev3.1 (by omega) (fun x hx hk => ev3.2 x hx fun e => hk (by rw [e, hb.tb_])) (.inr ⟨xt, t3, ht1, ht2⟩) (fun s _ => .inl ⟨by omega, rfl⟩) (.inl ⟨by omega, rfl⟩)
  have hr3 : RR R n H3 { h with g := swG h.g a b } := by
    refine ⟨ok4, c, hb3, fun i p hp => ?_⟩
    obtain ⟨j, hj⟩ := swG_of hp
    obtain ⟨v, h1, h2⟩ := hx j p hj
    exact ⟨v, h1, h2.keep ev3'.1 fun x hT hx => ev3'.2 x hx fun hd => hd hT⟩
  unfold swapM
  by_cases hab : (h.g a).isSome = true ∧ (h.g b).isSome = true
  · obtain ⟨ha, hbb⟩ := hab
    have hand : ((h.g a).isSome && (h.g b).isSome) = true := by rw [ha, hbb]; rfl
    rw [if_pos hand]
    obtain ⟨p, hp⟩ := Option.isSome_iff_exists.1 ha
    obtain ⟨q, hq⟩ := Option.isSome_iff_exists.1 hbb
    have da := hr.ok.dom a p hp
    have db' := hr.ok.dom b q hq
    generalize hX : (colorM h a == 3) = X at *
    generalize hY : (colorM h b == 3) = Y at *
    have hne : binA .neq (.sc .bool) (.bool X) (.bool Y) = some (.bool (X != Y)) := by cases X <;> cases Y <;> rfl
    by_cases hxy : (X != Y) = true
    · rw [if_pos hxy]
      simp -implicitDefEqProofs only [hand, hX, hY, ↓hne, hxy, Bool.false_eq_true, eqA, eqD, go_sem]
      obtain ⟨an, rfl⟩ := Int.eq_ofNat_of_zero_le (a := a) (by omega)
      obtain ⟨bn, rfl⟩ := Int.eq_ofNat_of_zero_le (a := b) (by omega)
      refine CW.mono (c_rOop (i := an) (by omega) (by omega)) ?_
      rintro v H4 ⟨rfl, rfl⟩
      simp -implicitDefEqProofs only [eqA, eqD, go_sem]
      refine CW.mono (c_rShadeH hr3 (w := 2 * an) (by omega)) ?_
      rintro v H4 ⟨hr4, ev4⟩
      simp -implicitDefEqProofs only [eqA, eqD, go_sem]
      refine CW.mono (c_rOop (i := bn) (by omega) (by omega)) ?_
      rintro v H5 ⟨rfl, rfl⟩
      simp -implicitDefEqProofs only [eqA, eqD, go_sem]
      refine CW.mono (c_rShadeH hr4 (w := 2 * bn) (by omega)) ?_
      rintro v H5 ⟨hr5, ev5⟩
      simp -implicitDefEqProofs only [eqA, eqD, go_sem]
      have e1 : ((2 * an : Nat) : Int) = 2 * (an : Int) := by omega
      have e2 : ((2 * bn : Nat) : Int) = 2 * (bn : Int) := by omega
      rw [e1, e2] at hr5
      exact ⟨hr5, (ev13.then ev4 fun _ _ h => h).then ev5 fun _ _ h => h⟩
    · rw [if_neg hxy]
      have hxy' : (X != Y) = false := by simpa using hxy
      simp -implicitDefEqProofs only [hand, hX, hY, ↓hne, hxy', Bool.false_eq_true, eqA, eqD, go_sem]
      exact ⟨hr3, ev13⟩
  · have hand : ((h.g a).isSome && (h.g b).isSome) = false := by
      cases ha : (h.g a).isSome <;> cases hbb : (h.g b).isSome <;> simp_all
    rw [if_neg (by rw [hand]; simp)]
    have hg : h.g a = none ∨ h.g b = none := by
      cases ha : h.g a with
      | none => exact .inl rfl
      | some p => cases hbb : h.g b with
        | none => exact .inr rfl
        | some q => exact absurd ⟨by rw [ha]; rfl, by rw [hbb]; rfl⟩ hab
    rw [swG_no hg] at hr3
    simp -implicitDefEqProofs only [hand, Bool.false_eq_true, eqA, eqD, go_sem]
    exact ⟨hr3, ev13⟩
theorem app_new {bytes : Nat} {e m : Nat} (he : Rd H e 0 []) {yv : AV} {ys : List AV} (hy : srcA H 1 false yv = some (ys, m)) (hm : m ≠ 0) (hb : m * bytes ≤ 140737488355328) (hb' : m ≤ 140737488355328) : appendF H 1 bytes false (.slice (some (e, 0)) 1 0 true) yv = some (.slice (some (H.next, 0)) 1 m false, H.newRow ys) := by
  have hm0 : m.beq 0 = false := nbf hm
  have hbb : (((0 + m) * bytes).ble 140737488355328 && (0 + m).ble 140737488355328) = true := by
    rw [Nat.zero_add, Nat.ble_eq_true_of_le hb, Nat.ble_eq_true_of_le hb']; rfl
  have hA : appendA H 1 bytes false (.slice (some (e, 0)) 1 0 true) yv = some (.slice (some (H.next, 0)) 1 (0 + m) false, H.newRow ([] ++ ys)) := by
    unfold appendA
    simp only [hy, hm0, hbb, cond_true, cond_false, Nat.beq_refl, he.load (n := 0 * 1) rfl]
  rw [Nat.zero_add, List.nil_append] at hA
  unfold appendF
  exact hA
theorem c_rPut (hr : RR R n H h) (i k : Int) {w : Nat} (hw : w < 4294967296) : CW MN 15 [.ptr (some (R.b, 0)), .int .i64 i, .int .i64 k, .int .u32 w] H fun v H' => v = .bool (putM h i k w).1 ∧ RR R n H' (putM h i k w).2 ∧ Evo R.d H H' := by
  refine CW_of (fn := af15) rfl ?_
  dsimp only [af15, qm, q, qG, qn, qi, qb, qB, qk, qc, qo, qg, qv, qr]
  obtain ⟨c, hb, hx⟩ := hr.rb
  unfold putM
  cases hi : h.g i with
  | none =>
    simp -implicitDefEqProofs only [eqA, eqD, go_sem]
    refine CW.mono (c_at0 hb hi) ?_
    rintro v H1 ⟨rfl, s1⟩
    obtain ⟨H2, H3, H4, H5, e1, e2, e3, e4, s5, -⟩ := two_new H1 (.int .i64 0) (.slice none 1 0 true) (.int .i64 0) (.int .i64 0) (.int .i64 0) (.slice none 1 0 true) (.int .i64 0) (.int .i64 0)
    simp -implicitDefEqProofs only [e1, e2, e3, e4, Bool.not_false, eqA, eqD, go_sem]
    exact hr.evS (s1.trans s5)
  | some p =>
    obtain ⟨s, d, rfl, hs, hd, hn, -, hl2, hl⟩ := hr.ok.place hi
    obtain ⟨u, hc, lw⟩ := hx i _ hi
    obtain ⟨a, s0, cl, rfl⟩ := lw.shape
    dsimp only
    generalize hob : h.X ((s : Int), (d : Int)) = ob at *
    simp -implicitDefEqProofs only [eqA, eqD, go_sem]
    refine CW.mono (c_at1 hb hi hc) ?_
    rintro v H1 ⟨rfl, s1⟩
    obtain ⟨H2, H3, H4, H5, e1, e2, e3, e4, s5, ⟨f, bf⟩, ⟨f', bg⟩, n5, n2⟩ := two_new H1 (.int .i64 0) (.slice none 1 0 true) (.int .i64 0) (.int .i64 0) (.int .i64 ob.1) (.slice a s0 ob.2.length cl) (.int .i64 s) (.int .i64 d)
    obtain ⟨-, -, l0⟩ := ld2 bf
    have sm := s1.trans s5
    by_cases k0 : k < 0
    · rw [if_neg (by omega)]
      simp -implicitDefEqProofs only [e1, e2, e3, e4, l0, k0, Bool.not_true, Bool.false_eq_true, eqA, eqD, go_sem]
      exact hr.evS sm
    by_cases k1 : (ob.2.length : Int) ≤ k
    · rw [if_neg (by omega)]
      simp -implicitDefEqProofs only [e1, e2, e3, e4, l0, k0, k1, Bool.not_true, Bool.false_eq_true, eqA, eqD, go_sem]
      exact hr.evS sm
    by_cases hw0 : w = 0
    · rw [if_neg (by omega)]
      have hz : ((w : Int) == 0) = true := by simp [hw0]
      simp -implicitDefEqProofs only [e1, e2, e3, e4, l0, k0, k1, hz, Bool.not_true, Bool.false_eq_true, eqA, eqD, go_sem]
      exact hr.evS sm
    have hz : ((w : Int) == 0) = false := by simp [hw0]
    rw [if_pos (by omega)]
    obtain ⟨kn, rfl⟩ := Int.eq_ofNat_of_zero_le (a := k) (by omega)
    rw [Int.toNat_natCast]
    have kl : kn < ob.2.length := by omega
    have k00 : (0 : Int) ≤ kn := by omega
    have k11 : (kn : Int) < (ob.2.length : Int) := by omega
    -- the copy
    have s6 := Chg.newRow H5 []
    have r6 := Rd.newRow H5 []
    have n6 : (H5.newRow []).next = H5.next + 1 := rfl
    generalize eH6 : H5.newRow [] = H6 at *
    have lw6 := lw.keep (sm.trans s6).1 fun x _ hx => (sm.trans s6).gt hx
    have ap := app_new (bytes := 4) r6 lw6.src (by omega) (by omega) (by omega)
    have s7 := Chg.newRow H6 (ob.2.map fun w => AV.int .u32 w)
    have a7 := Arr.newRow H6 (ob.2.map fun w => AV.int .u32 w) (fun _ => False)
    have n7 : (H6.newRow (ob.2.map fun w => AV.int .u32 w)).next = H6.next + 1 := rfl
    generalize eH7 : H6.newRow (ob.2.map fun w => AV.int .u32 w) = H7 at *
    have bf7 := bf.keep' (s6.trans s7).1 ((s6.trans s7).gt (by omega))
    have bg7 := bg.keep' (s6.trans s7).1 ((s6.trans s7).gt (by omega))
    have l06 : loadA H6 H1.next 1 1 = some [.slice a s0 ob.2.length cl] := by rw [s6.ld (by omega)]; exact l0
    obtain ⟨H8, q1, bf8, ch8⟩ := bf7.stores (i := 1) (vs := [.slice (some (H6.next, 0)) 1 ob.2.length false]) (by simp)
    have a8 := a7.keep (H' := H8) (by rw [ch8.1]; exact Nat.le_refl _) (ch8.2 _ (by omega))
    have bg8 := bg7.keep' (H' := H8) (by rw [ch8.1]; exact Nat.le_refl _) (ch8.2 _ (by omega))
    have l8 := bf8.load (i := 1) (by omega)
    have l80 := bf8.load2 (i := 0) (by omega)
    simp only [updL, List.getElem?_cons_zero, List.getElem?_cons_succ, Nat.le_refl, Nat.zero_le, if_true, Nat.sub_zero, Nat.zero_add, Nat.sub_self, Nat.reduceLeDiff, reduceIte] at l8 l80
    obtain ⟨H9, q2, nn9, a9, k9⟩ := a8.store (o := kn) (vs := [.int .u32 w]) (cs' := (ob.2.set kn w).map fun w => AV.int .u32 w) (by simp; omega) (by
      rw [List.map_set]
      simp only [setAt, List.length_singleton]
      rw [List.set_eq_take_append_cons_drop, if_pos (by simpa using kl)]
      simp)
    have kk9 : ∀ y, y ≠ H6.next → H9.get y = H8.get y := fun y hy => k9 y hy (by simp)
    have l9 : loadA H9 H1.next 0 2 = some [.int .i64 ob.1, .slice (some (H6.next, 0)) 1 ob.2.length false] := by rw [loadA_congr (kk9 _ (by omega))]; exact l80
    have bg9 := bg8.keep' (H' := H9) (by omega) (kk9 _ (by omega))
    obtain ⟨lg9, lg90, lg91⟩ := ld2 bg9
    have sm9 : Sm H H9 := Sm.of (by have := sm.1; have := ch8.1; omega) fun x hx => by
      have := sm.1
      have := s1.1
      rw [kk9 x (by omega), ch8.2 x (by omega), (s6.trans s7).gt (by omega), sm.gt hx]
    have hb9 := hb.sm sm9
    have lP := hb9.ldP
    obtain ⟨H10, m1, m2, m3⟩ := hb9.map.upd keyed_two ((s : Int), (d : Int)) (ob.1, .slice (some (H6.next, 0)) 1 ob.2.length false)
    simp only [pl, cellV] at m1
    have hmp : R.mp < H9.next := hb9.map.lt
    have dmp : R.T R.mp = 2 := hb9.tm
    have hb10 : RB R H10 h.g h.M (fset c ((s : Int), (d : Int)) (some (ob.1, .slice (some (H6.next, 0)) 1 ob.2.length false))) := hb9.gen (k := 2) (by rw [m3.1]; exact Nat.le_refl _) (by omega) (fun x hx hk => m3.2 x fun e => hk (by rw [e, dmp])) (.inl ⟨by omega, rfl⟩) (fun s _ => .inl ⟨by omega, rfl⟩) (.inr m2)
    have h69 : H6.next < H9.next := a9.1
    have T6 : R.T H6.next = 0 := hb.new _ (by have := sm.1; omega)
    have lo6 : R.lo ≤ H6.next := by have := hb.lo_; have := sm.1; omega
    have ok4 : HOk n { h with X := fset h.X ((s : Int), (d : Int)) (ob.1, ob.2.set kn w) } := by
      have := hr.ok.putX hi (l := ob.2.set kn w) (by rw [hob]; simp) fun x hx => by
        rcases List.mem_or_eq_of_mem_set hx with hx | rfl
        · exact (hr.ok.x _ _ hi).2.2 x (by rw [hob]; exact hx)
        · omega
      rwa [hob] at this
    have hr10 : RR R n H10 { h with X := fset h.X ((s : Int), (d : Int)) (ob.1, ob.2.set kn w) } := by
      refine ⟨ok4, _, hb10, fun j p hp => ?_⟩
      by_cases e : p = ((s : Int), (d : Int))
      · subst e
        have eX : ({ h with X := fset h.X ((s : Int), (d : Int)) (ob.1, ob.2.set kn w) } : HM).X ((s : Int), (d : Int)) = (ob.1, ob.2.set kn w) := fset_same
        rw [eX, fset_same]
        refine ⟨_, rfl, .inr ⟨H6.next, 0, false, by simp, lo6, T6, ?_⟩⟩
        exact a9.rd.keep (by rw [m3.1]; exact Nat.le_refl _) (m3.2 _ fun e => by rw [e, dmp] at T6; omega)
      · obtain ⟨v, h1, h2⟩ := hx j p hp
        have eX : ({ h with X := fset h.X ((s : Int), (d : Int)) (ob.1, ob.2.set kn w) } : HM).X p = h.X p := fset_ne e
        rw [eX, fset_ne e]
        refine ⟨v, h1, ?_⟩
        refine h2.keep (by rw [m3.1]; exact sm9.1) fun x hT hx => ?_
        rw [m3.2 x fun e => by rw [e, dmp] at hT; omega, sm9.gt hx]
    have ev10 : Evo R.d H H10 := (Evo.of_sm (D := R.d) sm9).then (Evo.of_ch (D := R.d) m3 (by show R.T _ ≠ 0; rw [dmp]; omega)) fun _ _ h => h
    have bg10 := bg9.keep' (H' := H10) (by rw [m3.1]; exact Nat.le_refl _) (m3.2 _ fun e => by have := hb.map.lt; have := s1.1; omega)
    obtain ⟨-, lg0, lg1⟩ := ld2 bg10
    have lm := hb10.ldM hs
    have s00 : (0 : Int) ≤ s := by omega
    have s05 : (s : Int) < 5 := by omega
    simp -implicitDefEqProofs only [e1, e2, e3, e4, eH6, eH7, l0, l06, ap, q1, l8, q2, lP, l9, lg9, m1, lg0, lg1, lm, s00, s05, k0, k1, k00, k11, hz, Nat.zero_add, Bool.not_true, Bool.false_eq_true, eqA, eqD, go_sem]
    refine CW.mono (c_rColor (hb10.mil s hs) (hr.ok.mill s hs) (hr.ok.max s hs) d) ?_
    rintro v H11 ⟨rfl, rfl⟩
    by_cases hcol : colM (h.M s) d = 1
    · rw [if_pos (by simpa using hcol)]
      simp -implicitDefEqProofs only [lg0, lg1, lm, hcol, eqA, eqD, go_sem]
      refine CW.mono (c_rShadeH hr10 hw) ?_
      rintro v H12 ⟨hr12, ev12⟩
      simp -implicitDefEqProofs only [eqA, eqD, go_sem]
      exact ⟨hr12, ev10.then ev12 fun _ _ h => h⟩
    · rw [if_neg (by simpa using hcol)]
      have hcol' : (colM (h.M s) d == 1) = false := by simpa using hcol
      simp -implicitDefEqProofs only [lg0, lg1, lm, hcol', Bool.false_eq_true, eqA, eqD, go_sem]
      exact ⟨hr10, ev10⟩
end
end Go.Proofs.YtaihjlemofgokaaGreat.AA
