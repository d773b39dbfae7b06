/- The queue: what stays true; both queues, side by side. -/
import Derived.Test.YtldlolpbnfgdeaaKQueC
set_option linter.unusedSimpArgs false
set_option linter.unusedVariables false
namespace Go.Proofs.Ytldlolpbnfgdeaa.AA
open Go Go.RowKit
set_option maxHeartbeats 1000000
/-- All is well, but some are on their way. -/
structure InvX (s : QS) (x : List Nat) : Prop where
  lv4 : ∀ p, s.lv p < 4
  rd : ∀ l, l < 4 → ∀ p, p ∈ s.r l → s.lv p = l
  inn : ∀ p, s.inn p = true → p < 6
  cb : ∀ m, s.c m ≤ 1048576
  one : ∀ p, cnt s p + x.count p = if s.inn p = true then 1 else 0
theorem Inv.x {s : QS} (h : Inv s) : InvX s [] := ⟨h.lv4, h.rd, h.inn, h.cb, fun p => by simpa using h.one p⟩
theorem InvX.i {s : QS} (h : InvX s []) : Inv s := ⟨h.lv4, h.rd, h.inn, h.cb, fun p => by simpa using h.one p⟩
theorem cnt_setr (s : QS) {i : Nat} (hi : i < 8) (l : List Nat) (p : Nat) : cnt (s.setr i l) p + (s.r i).count p = cnt s p + l.count p := by
  have : i = 0 ∨ i = 1 ∨ i = 2 ∨ i = 3 ∨ i = 4 ∨ i = 5 ∨ i = 6 ∨ i = 7 := by omega
  rcases this with rfl | rfl | rfl | rfl | rfl | rfl | rfl | rfl <;> simp [cnt, QS.setr, upd] <;> omega
theorem cnt_sets (s : QS) (l : List (Nat × Int)) (p : Nat) : cnt (s.sets l) p + (s.s.map (·.1)).count p = cnt s p + (l.map (·.1)).count p := by
  simp [cnt, QS.sets]; omega
theorem InvX.pop {s : QS} {x : List Nat} (h : InvX s x) {i p : Nat} {t : List Nat} (hi : i < 8) (e : s.r i = p :: t) : InvX (s.setr i t) (p :: x) := by
  refine ⟨h.lv4, fun l hl q hq => ?_, h.inn, h.cb, fun q => ?_⟩
  · refine h.rd l hl q ?_
    simp only [QS.setr, upd] at hq
    split at hq
    · rename_i el; subst el; rw [e]; exact List.mem_cons_of_mem _ hq
    · exact hq
  · have h1 := cnt_setr s hi t q
    have h2 := h.one q
    rw [e] at h1
    have h3 : (s.setr i t).inn = s.inn := rfl
    rw [h3, ← h2, List.count_cons]
    rw [List.count_cons] at h1
    omega
theorem InvX.push {s : QS} {x : List Nat} {i p : Nat} (h : InvX s (p :: x)) (hi : i < 8) (hl : i < 4 → s.lv p = i) : InvX (s.setr i (s.r i ++ [p])) x := by
  refine ⟨h.lv4, fun l hl' q hq => ?_, h.inn, h.cb, fun q => ?_⟩
  · simp only [QS.setr, upd] at hq
    split at hq
    · rename_i el; subst el
      rcases List.mem_append.1 hq with hq | hq
      · exact h.rd _ hl' q hq
      · simp at hq; subst hq; exact hl hl'
    · exact h.rd l hl' q hq
  · have h1 := cnt_setr s hi (s.r i ++ [p]) q
    have h2 := h.one q
    have h3 : (s.setr i (s.r i ++ [p])).inn = s.inn := rfl
    rw [h3, ← h2, List.count_cons]
    rw [List.count_append, List.count_cons, List.count_nil] at h1
    omega
theorem InvX.ps {s : QS} {x : List Nat} {p : Nat} (h : InvX s (p :: x)) : InvX (ps s p) x := h.push (by have := h.lv4 p; omega) fun _ => rfl
theorem InvX.tk {s : QS} {x : List Nat} (h : InvX s x) {p : Nat} (hf : fst1 s = some p) : InvX (tk s) (p :: x) := by
  obtain ⟨l, t, ht, hl, e⟩ := fst1_some hf
  have hk : Go.Proofs.Ytldlolpbnfgdeaa.AA.tk s = s.setr l t := by simp [Go.Proofs.Ytldlolpbnfgdeaa.AA.tk, ht, e]
  rw [hk]
  exact h.pop (by omega) e
theorem InvX.inn1 {s : QS} {x : List Nat} (h : InvX s x) {p l : Nat} (hp : p < 6) (hl : l < 4) (hn : s.inn p = false) : InvX (inn1 s p l) (p :: x) := by
  have hz := h.one p
  rw [hn] at hz
  have hz' : cnt s p = 0 ∧ x.count p = 0 := by
    rw [if_neg (by simp)] at hz
    exact ⟨by omega, by omega⟩
  have hc : ∀ q, cnt (Go.Proofs.Ytldlolpbnfgdeaa.AA.inn1 s p l) q = cnt s q := fun q => rfl
  refine ⟨fun q => ?_, fun l' hl' q hq => ?_, fun q hq => ?_, h.cb, fun q => ?_⟩
  · simp only [Go.Proofs.Ytldlolpbnfgdeaa.AA.inn1, upd]
    split
    · exact hl
    · exact h.lv4 q
  · have hq' : q ∈ s.r l' := hq
    have hne : q ≠ p := by
      rintro rfl
      have h1 := count_pos hq'
      have h2 := hz'.1
      unfold cnt at h2
      have : l' = 0 ∨ l' = 1 ∨ l' = 2 ∨ l' = 3 := by omega
      rcases this with rfl | rfl | rfl | rfl <;> omega
    simp only [Go.Proofs.Ytldlolpbnfgdeaa.AA.inn1, upd, if_neg hne]
    exact h.rd l' hl' q hq'
  · simp only [Go.Proofs.Ytldlolpbnfgdeaa.AA.inn1, upd] at hq
    split at hq
    · rename_i e; subst e; exact hp
    · exact h.inn q hq
  · rw [hc]
    by_cases e : q = p
    · subst e
      simp only [Go.Proofs.Ytldlolpbnfgdeaa.AA.inn1, upd, if_true, List.count_cons_self]
      omega
    · have h1 := h.one q
      have e2 : ¬ p = q := fun h => e h.symm
      simp only [Go.Proofs.Ytldlolpbnfgdeaa.AA.inn1, upd, if_neg e, List.count_cons, beq_iff_eq, if_neg e2, Nat.add_zero]
      exact h1
theorem Inv.mReady {s : QS} (h : Inv s) (p l : Int) : Inv (mReady s p l) := by
  unfold Go.Proofs.Ytldlolpbnfgdeaa.AA.mReady
  split
  · rename_i hk
    simp only [okR, Bool.and_eq_true, decide_eq_true_eq, Bool.not_eq_true'] at hk
    obtain ⟨⟨⟨h0, h6⟩, hn⟩, hl0, hl4⟩ := hk
    exact (h.x.inn1 (by omega) (by omega) hn).ps.i
  · exact h
theorem Inv.mTurn {s : QS} (h : Inv s) : Inv (mTurn s) := by
  unfold Go.Proofs.Ytldlolpbnfgdeaa.AA.mTurn
  split
  · rename_i p hf; exact (h.x.tk hf).ps.i
  · exact h
theorem Inv.setc {s : QS} (h : Inv s) {m n : Nat} (hn : n ≤ 1048576) : Inv (s.setc m n) := by
  refine ⟨h.lv4, h.rd, h.inn, fun k => ?_, h.one⟩
  simp only [QS.setc, upd]
  split
  · exact hn
  · exact h.cb k
theorem Inv.mWait {s : QS} (h : Inv s) (m : Int) : Inv (mWait s m) := by
  unfold Go.Proofs.Ytldlolpbnfgdeaa.AA.mWait
  split
  · rename_i hk
    have hm : 0 ≤ m ∧ m < 4 := by
      simp only [okW, Bool.and_eq_true, decide_eq_true_eq] at hk
      exact hk.1
    split
    · have := h.cb m.toNat
      exact h.setc (by omega)
    · split
      · rename_i p hf
        exact ((h.x.tk hf).push (i := 4 + m.toNat) (by omega) (by omega)).i
      · exact h
  · exact h
theorem Inv.mPost {s : QS} (h : Inv s) (m : Int) : Inv (mPost s m) := by
  unfold Go.Proofs.Ytldlolpbnfgdeaa.AA.mPost
  split
  · split
    · exact h.setc (by omega)
    · rename_i p t e
      exact (h.x.pop (by omega) e).ps.i
  · exact h
theorem InvX.spush {s : QS} {x : List Nat} {p : Nat} {u : Int} (h : InvX s (p :: x)) : InvX (s.sets (s.s ++ [(p, u)])) x := by
  refine ⟨h.lv4, h.rd, h.inn, h.cb, fun q => ?_⟩
  have h1 := cnt_sets s (s.s ++ [(p, u)]) q
  have h2 := h.one q
  have h3 : (s.sets (s.s ++ [(p, u)])).inn = s.inn := rfl
  rw [h3, ← h2, List.count_cons]
  rw [List.map_append, List.count_append] at h1
  simp only [List.map_cons, List.map_nil, List.count_cons, List.count_nil] at h1
  omega
theorem Inv.mSleep {s : QS} (h : Inv s) (u : Int) : Inv (mSleep s u) := by
  unfold Go.Proofs.Ytldlolpbnfgdeaa.AA.mSleep
  split
  · rename_i p hf; exact (h.x.tk hf).spush.i
  · exact h
theorem Inv.mEnd {s : QS} (h : Inv s) : Inv (mEnd s) := by
  unfold Go.Proofs.Ytldlolpbnfgdeaa.AA.mEnd
  split
  · rename_i p hf
    have hx := h.x.tk hf
    refine ⟨hx.lv4, hx.rd, fun q hq => ?_, hx.cb, fun q => ?_⟩
    · simp only [upd] at hq
      split at hq
      · cases hq
      · exact h.inn q hq
    · have h1 := hx.one q
      have hc : cnt { tk s with inn := upd s.inn p false } q = cnt (tk s) q := rfl
      rw [hc]
      rw [tk_inn] at h1
      show cnt (tk s) q + 0 = if upd s.inn p false q = true then 1 else 0
      by_cases e : q = p
      · subst e
        rw [List.count_cons_self, List.count_nil] at h1
        rw [upd_same]
        split at h1 <;> simp <;> omega
      · have e2 : ¬ p = q := fun h => e h.symm
        simp only [List.count_cons, beq_iff_eq, if_neg e2, List.count_nil, Nat.add_zero] at h1
        rw [upd_ne e]
        exact h1
  · exact h
theorem bub_count (q : Nat) : ∀ (r : List (Nat × Int)) (x : Nat × Int) (post : List (Nat × Int)), ((bub r x post).map (·.1)).count q = (r.map (·.1)).count q + ([x.1]).count q + (post.map (·.1)).count q
  | [], x, post => by simp [bub, List.count_cons]; omega
  | y :: r, x, post => by
    unfold bub
    split
    · rw [bub_count q r]; simp [List.count_cons]; omega
    · simp only [List.map_append, List.map_cons, List.map_reverse, List.count_append, List.count_reverse, List.count_cons, List.count_nil]; omega
theorem isort_count (q : Nat) (l : List (Nat × Int)) : ((isort l).map (·.1)).count q = (l.map (·.1)).count q := by
  have key : ∀ (l S : List (Nat × Int)), ((l.foldl (fun S x => bub S.reverse x []) S).map (·.1)).count q = (S.map (·.1)).count q + (l.map (·.1)).count q := by
    intro l
    induction l with
    | nil => intro S; simp
    | cons x l ih =>
      intro S
      rw [List.foldl_cons, ih, bub_count]
      simp only [List.map_reverse, List.count_reverse, List.map_cons, List.map_nil, List.count_cons, List.count_nil]
      omega
  rw [isort, key]; simp
theorem InvX.pss {x : List Nat} : ∀ {l : List Nat} {s : QS}, InvX s (l ++ x) → InvX (pss s l) x
  | [], s, h => h
  | p :: l, s, h => by
    have : Go.Proofs.Ytldlolpbnfgdeaa.AA.pss s (p :: l) = Go.Proofs.Ytldlolpbnfgdeaa.AA.pss (Go.Proofs.Ytldlolpbnfgdeaa.AA.ps s p) l := rfl
    rw [this]
    exact InvX.pss (InvX.ps h)
theorem filter_count (q : Nat) (f : Nat × Int → Bool) (l : List (Nat × Int)) : ((l.filter f).map (·.1)).count q + ((l.filter fun x => !f x).map (·.1)).count q = (l.map (·.1)).count q := by
  induction l with
  | nil => rfl
  | cons x l ih =>
    cases h : f x <;> simp [List.filter_cons, h, List.count_cons] <;> omega
theorem Inv.mWake {s : QS} (h : Inv s) (now : Int) : Inv (mWake s now) := by
  refine (InvX.pss (l := vWake s now) (x := []) ?_).i
  refine ⟨h.lv4, h.rd, h.inn, h.cb, fun q => ?_⟩
  have h1 := cnt_sets s (wkr s now) q
  have h2 := h.one q
  have h3 : (s.sets (wkr s now)).inn = s.inn := rfl
  have h4 := filter_count q (due now) s.s
  have h5 := isort_count q (s.s.filter (due now))
  rw [h3, ← h2, List.append_nil]
  unfold vWake wkd
  unfold wkr at h1 ⊢
  omega
end Go.Proofs.Ytldlolpbnfgdeaa.AA
namespace Go.Proofs.Ytldlolpbnfgdeaa.AA
open Go Go.RowKit
set_option maxRecDepth 100000
attribute [local irreducible] Tr.set
set_option maxHeartbeats 1000000
section
variable {H : AHeap}
theorem nats_get {l : List Nat} {i : Nat} (h : i < l.length) : (nats l)[i]? = some (.int .i64 (l[i] : Nat)) := by
  simp [nats, iv, List.getElem?_eq_getElem h]
theorem c_Same {P P' : Nat → Prop} {v v' : AV} {l : List Nat} (h : Sl H P 1 v l.length (nats l)) (h' : Sl H P' 1 v' l.length (nats l)) (hm : l.length < 1000) : CW M0 17 [v, v'] H fun u H' => u = .bool true ∧ H' = H := by
  refine CW_of (fn := af17) rfl ?_
  obtain ⟨a, s0, cl, ev⟩ := h.form
  obtain ⟨a', s0', cl', ev'⟩ := h'.form
  subst ev; subst ev'
  unfold af17
  simp -implicitDefEqProofs only [bne_self_eq_false, Bool.false_eq_true, ↓WP_seq, ↓WP_skip, ↓WP_region, ↓WP_dregion, ↓WP_cond, ↓WP_block, ↓WP_exit, ↓WP_ret, ↓OW_nil, ↓OW_cons, ↓DW_nil, ↓DW_cons, ↓XW_call, XW, exA, KO_eq, KD_eq, OptK_some, EvK_some, GW2_true, GW2_false, KS_normal, KS_ret, KS_exit, KB_normal, KB_ret, KB_exit, CP2_bool, RP_ret, RP_normal, putA_some, putA_none, ev_t, ev_c, evs, evo, wantA, initA, resA, Tr.get_set, vl, chkOk, cond_true, cond_false, Nat.add_zero, Nat.mul_one, Nat.one_mul, Nat.zero_add, Nat.zero_mul, aggOf, pInt, binA, unA, intA, beq_true, beq_false, Bool.not_true, Bool.not_false, Bool.not_eq_true, and_self, and_true, true_and, ↓reduceIte, reduceIte, Nat.reduceEqDiff, Nat.succ_ne_self, Nat.reduceAdd, Nat.reduceMul, Nat.reduceSub, Nat.reduceBEq, Nat.reduceLT, Nat.reduceLeDiff, Int.cast_ofNat_Int, Int.reduceToNat, Int.reduceLT, Int.reduceLE, Int.reduceGE, Int.reduceGT, Int.reduceEq, Int.reduceNe, Int.reduceAdd, Int.reduceSub, Int.reduceNeg, decide_true, decide_false, Int.toNat_natCast, reduceCtorEq, List.nil_append, List.cons_append, AV.boxy, AV.cells, List.length_cons, List.length_nil, Nat.beq_refl, AOp.cl, ↓OW_guard, ↓DW_guard, KDW_0, KDW_1, KDW_2, OWskip_eq, DWskip_eq, fillA, setAt, DChk, DAt, stepA, ble_dec, beq_dec, Bool.and_self, Bool.and_true, Bool.true_and, Bool.and_false, Bool.false_and, List.take_succ_cons, List.take_zero, List.drop_succ_cons, List.drop_zero, List.take_nil, List.drop_nil, List.append_nil, eqAV, eqAVL, BEq.rfl, eqA, eqD, sameS, Option.map, Option.isNone, addrA, wrap64, gt_iff_lt, ge_iff_le, Int.lt_irrefl, Int.le_refl]
  refine WP_loop (fun n fr H' => ∃ i, n + i = l.length ∧ H' = H ∧ fr.get 0 = some (.slice a s0 l.length cl) ∧ fr.get 1 = some (.slice a' s0' l.length cl') ∧ fr.get 5 = some (.int .i64 i)) l.length ?_ ?_
  · refine ⟨0, rfl, rfl, ?_⟩
    simp -implicitDefEqProofs only [↓WP_seq, ↓WP_skip, ↓WP_region, ↓WP_dregion, ↓WP_cond, ↓WP_block, ↓WP_exit, ↓WP_ret, ↓OW_nil, ↓OW_cons, ↓DW_nil, ↓DW_cons, ↓XW_call, XW, exA, KO_eq, KD_eq, OptK_some, EvK_some, GW2_true, GW2_false, KS_normal, KS_ret, KS_exit, KB_normal, KB_ret, KB_exit, CP2_bool, RP_ret, RP_normal, putA_some, putA_none, ev_t, ev_c, evs, evo, wantA, initA, resA, Tr.get_set, vl, chkOk, cond_true, cond_false, Nat.add_zero, Nat.mul_one, Nat.one_mul, Nat.zero_add, Nat.zero_mul, aggOf, pInt, binA, unA, intA, beq_true, beq_false, Bool.not_true, Bool.not_false, Bool.not_eq_true, and_self, and_true, true_and, ↓reduceIte, reduceIte, Nat.reduceEqDiff, Nat.succ_ne_self, Nat.reduceAdd, Nat.reduceMul, Nat.reduceSub, Nat.reduceBEq, Nat.reduceLT, Nat.reduceLeDiff, Int.cast_ofNat_Int, Int.reduceToNat, Int.reduceLT, Int.reduceLE, Int.reduceGE, Int.reduceGT, Int.reduceEq, Int.reduceNe, Int.reduceAdd, Int.reduceSub, Int.reduceNeg, decide_true, decide_false, Int.toNat_natCast, reduceCtorEq, List.nil_append, List.cons_append, AV.boxy, AV.cells, List.length_cons, List.length_nil, Nat.beq_refl, AOp.cl, ↓OW_guard, ↓DW_guard, KDW_0, KDW_1, KDW_2, OWskip_eq, DWskip_eq, fillA, setAt, DChk, DAt, stepA, ble_dec, beq_dec, Bool.and_self, Bool.and_true, Bool.true_and, Bool.and_false, Bool.false_and, List.take_succ_cons, List.take_zero, List.drop_succ_cons, List.drop_zero, List.take_nil, List.drop_nil, List.append_nil, eqAV, eqAVL, BEq.rfl, eqA, eqD, sameS, Option.map, Option.isNone, addrA, wrap64, gt_iff_lt, ge_iff_le, Int.lt_irrefl, Int.le_refl]
  · rintro n fr H' ⟨i, hni, rfl, g0, g1, g5⟩
    by_cases hlt : i < l.length
    · have hlt' : (i : Int) < (l.length : Int) := by omega
      have hi0 : (0 : Int) ≤ i := by omega
      have hw : IntKind.i64.wrap ((i : Int) + 1) = ((i + 1 : Nat) : Int) := by rw [wrap64 (by omega) (by omega)]; omega
      rcases h with ⟨-, e1, e2⟩ | ⟨x, o, k, e1, -, -, r1, -⟩
      · omega
      rcases h' with ⟨-, e2, e3⟩ | ⟨x', o', k', e2, -, -, r2, -⟩
      · omega
      injection e1 with ea _ _ _
      injection e2 with ea' _ _ _
      subst ea; subst ea'
      have l1 := r1.one (nats_get hlt)
      have l2 := r2.one (nats_get hlt)
      simp -implicitDefEqProofs only [g0, g1, g5, hlt', hi0, hw, l1, l2, bne_self_eq_false, Bool.false_eq_true, ↓WP_seq, ↓WP_skip, ↓WP_region, ↓WP_dregion, ↓WP_cond, ↓WP_block, ↓WP_exit, ↓WP_ret, ↓OW_nil, ↓OW_cons, ↓DW_nil, ↓DW_cons, ↓XW_call, XW, exA, KO_eq, KD_eq, OptK_some, EvK_some, GW2_true, GW2_false, KS_normal, KS_ret, KS_exit, KB_normal, KB_ret, KB_exit, CP2_bool, RP_ret, RP_normal, putA_some, putA_none, ev_t, ev_c, evs, evo, wantA, initA, resA, Tr.get_set, vl, chkOk, cond_true, cond_false, Nat.add_zero, Nat.mul_one, Nat.one_mul, Nat.zero_add, Nat.zero_mul, aggOf, pInt, binA, unA, intA, beq_true, beq_false, Bool.not_true, Bool.not_false, Bool.not_eq_true, and_self, and_true, true_and, ↓reduceIte, reduceIte, Nat.reduceEqDiff, Nat.succ_ne_self, Nat.reduceAdd, Nat.reduceMul, Nat.reduceSub, Nat.reduceBEq, Nat.reduceLT, Nat.reduceLeDiff, Int.cast_ofNat_Int, Int.reduceToNat, Int.reduceLT, Int.reduceLE, Int.reduceGE, Int.reduceGT, Int.reduceEq, Int.reduceNe, Int.reduceAdd, Int.reduceSub, Int.reduceNeg, decide_true, decide_false, Int.toNat_natCast, reduceCtorEq, List.nil_append, List.cons_append, AV.boxy, AV.cells, List.length_cons, List.length_nil, Nat.beq_refl, AOp.cl, ↓OW_guard, ↓DW_guard, KDW_0, KDW_1, KDW_2, OWskip_eq, DWskip_eq, fillA, setAt, DChk, DAt, stepA, ble_dec, beq_dec, Bool.and_self, Bool.and_true, Bool.true_and, Bool.and_false, Bool.false_and, List.take_succ_cons, List.take_zero, List.drop_succ_cons, List.drop_zero, List.take_nil, List.drop_nil, List.append_nil, eqAV, eqAVL, BEq.rfl, eqA, eqD, sameS, Option.map, Option.isNone, addrA, wrap64, gt_iff_lt, ge_iff_le, Int.lt_irrefl, Int.le_refl]
      exact ⟨n - 1, by omega, i + 1, by omega, rfl⟩
    · have hlt' : ¬ (i : Int) < (l.length : Int) := by omega
      simp -implicitDefEqProofs only [g0, g1, g5, hlt', Bool.false_eq_true, ↓WP_seq, ↓WP_skip, ↓WP_region, ↓WP_dregion, ↓WP_cond, ↓WP_block, ↓WP_exit, ↓WP_ret, ↓OW_nil, ↓OW_cons, ↓DW_nil, ↓DW_cons, ↓XW_call, XW, exA, KO_eq, KD_eq, OptK_some, EvK_some, GW2_true, GW2_false, KS_normal, KS_ret, KS_exit, KB_normal, KB_ret, KB_exit, CP2_bool, RP_ret, RP_normal, putA_some, putA_none, ev_t, ev_c, evs, evo, wantA, initA, resA, Tr.get_set, vl, chkOk, cond_true, cond_false, Nat.add_zero, Nat.mul_one, Nat.one_mul, Nat.zero_add, Nat.zero_mul, aggOf, pInt, binA, unA, intA, beq_true, beq_false, Bool.not_true, Bool.not_false, Bool.not_eq_true, and_self, and_true, true_and, ↓reduceIte, reduceIte, Nat.reduceEqDiff, Nat.succ_ne_self, Nat.reduceAdd, Nat.reduceMul, Nat.reduceSub, Nat.reduceBEq, Nat.reduceLT, Nat.reduceLeDiff, Int.cast_ofNat_Int, Int.reduceToNat, Int.reduceLT, Int.reduceLE, Int.reduceGE, Int.reduceGT, Int.reduceEq, Int.reduceNe, Int.reduceAdd, Int.reduceSub, Int.reduceNeg, decide_true, decide_false, Int.toNat_natCast, reduceCtorEq, List.nil_append, List.cons_append, AV.boxy, AV.cells, List.length_cons, List.length_nil, Nat.beq_refl, AOp.cl, ↓OW_guard, ↓DW_guard, KDW_0, KDW_1, KDW_2, OWskip_eq, DWskip_eq, fillA, setAt, DChk, DAt, stepA, ble_dec, beq_dec, Bool.and_self, Bool.and_true, Bool.true_and, Bool.and_false, Bool.false_and, List.take_succ_cons, List.take_zero, List.drop_succ_cons, List.drop_zero, List.take_nil, List.drop_nil, List.append_nil, eqAV, eqAVL, BEq.rfl, eqA, eqD, sameS, Option.map, Option.isNone, addrA, wrap64, gt_iff_lt, ge_iff_le, Int.lt_irrefl, Int.le_refl]
theorem c_same {q w : Nat} {f f' : Nat → AV} {D D' : Nat → Prop} {s : QS} (h : QC H q 25 f D (gP s)) (h' : QC H w 19 f' D' (gR s)) (hi : Inv s) : CW M0 71 [.ptr (some (q, 0)), .ptr (some (w, 0))] H fun u H' => u = .bool true ∧ H' = H := by
  refine CW_of (fn := af71) rfl ?_
  unfold af71
  simp -implicitDefEqProofs only [bne_self_eq_false, Bool.false_eq_true, ↓WP_seq, ↓WP_skip, ↓WP_region, ↓WP_dregion, ↓WP_cond, ↓WP_block, ↓WP_exit, ↓WP_ret, ↓OW_nil, ↓OW_cons, ↓DW_nil, ↓DW_cons, ↓XW_call, XW, exA, KO_eq, KD_eq, OptK_some, EvK_some, GW2_true, GW2_false, KS_normal, KS_ret, KS_exit, KB_normal, KB_ret, KB_exit, CP2_bool, RP_ret, RP_normal, putA_some, putA_none, ev_t, ev_c, evs, evo, wantA, initA, resA, Tr.get_set, vl, chkOk, cond_true, cond_false, Nat.add_zero, Nat.mul_one, Nat.one_mul, Nat.zero_add, Nat.zero_mul, aggOf, pInt, binA, unA, intA, beq_true, beq_false, Bool.not_true, Bool.not_false, Bool.not_eq_true, and_self, and_true, true_and, ↓reduceIte, reduceIte, Nat.reduceEqDiff, Nat.succ_ne_self, Nat.reduceAdd, Nat.reduceMul, Nat.reduceSub, Nat.reduceBEq, Nat.reduceLT, Nat.reduceLeDiff, Int.cast_ofNat_Int, Int.reduceToNat, Int.reduceLT, Int.reduceLE, Int.reduceGE, Int.reduceGT, Int.reduceEq, Int.reduceNe, Int.reduceAdd, Int.reduceSub, Int.reduceNeg, decide_true, decide_false, Int.toNat_natCast, reduceCtorEq, List.nil_append, List.cons_append, AV.boxy, AV.cells, List.length_cons, List.length_nil, Nat.beq_refl, AOp.cl, ↓OW_guard, ↓DW_guard, KDW_0, KDW_1, KDW_2, OWskip_eq, DWskip_eq, fillA, setAt, DChk, DAt, stepA, ble_dec, beq_dec, Bool.and_self, Bool.and_true, Bool.true_and, Bool.and_false, Bool.false_and, List.take_succ_cons, List.take_zero, List.drop_succ_cons, List.drop_zero, List.take_nil, List.drop_nil, List.append_nil, eqAV, eqAVL, BEq.rfl, eqA, eqD, sameS, Option.map, Option.isNone, addrA, wrap64, gt_iff_lt, ge_iff_le, Int.lt_irrefl, Int.le_refl]
  refine WP_loop (fun n fr H' => ∃ p : Int, (n : Int) + p = 7 ∧ -1 ≤ p ∧ H' = H ∧ fr.get 0 = some (.ptr (some (q, 0))) ∧ fr.get 1 = some (.ptr (some (w, 0))) ∧ fr.get 5 = some (.int .i64 p)) 8 ?_ ?_
  · refine ⟨-1, by omega, by omega, rfl, ?_⟩
    simp -implicitDefEqProofs only [↓WP_seq, ↓WP_skip, ↓WP_region, ↓WP_dregion, ↓WP_cond, ↓WP_block, ↓WP_exit, ↓WP_ret, ↓OW_nil, ↓OW_cons, ↓DW_nil, ↓DW_cons, ↓XW_call, XW, exA, KO_eq, KD_eq, OptK_some, EvK_some, GW2_true, GW2_false, KS_normal, KS_ret, KS_exit, KB_normal, KB_ret, KB_exit, CP2_bool, RP_ret, RP_normal, putA_some, putA_none, ev_t, ev_c, evs, evo, wantA, initA, resA, Tr.get_set, vl, chkOk, cond_true, cond_false, Nat.add_zero, Nat.mul_one, Nat.one_mul, Nat.zero_add, Nat.zero_mul, aggOf, pInt, binA, unA, intA, beq_true, beq_false, Bool.not_true, Bool.not_false, Bool.not_eq_true, and_self, and_true, true_and, ↓reduceIte, reduceIte, Nat.reduceEqDiff, Nat.succ_ne_self, Nat.reduceAdd, Nat.reduceMul, Nat.reduceSub, Nat.reduceBEq, Nat.reduceLT, Nat.reduceLeDiff, Int.cast_ofNat_Int, Int.reduceToNat, Int.reduceLT, Int.reduceLE, Int.reduceGE, Int.reduceGT, Int.reduceEq, Int.reduceNe, Int.reduceAdd, Int.reduceSub, Int.reduceNeg, decide_true, decide_false, Int.toNat_natCast, reduceCtorEq, List.nil_append, List.cons_append, AV.boxy, AV.cells, List.length_cons, List.length_nil, Nat.beq_refl, AOp.cl, ↓OW_guard, ↓DW_guard, KDW_0, KDW_1, KDW_2, OWskip_eq, DWskip_eq, fillA, setAt, DChk, DAt, stepA, ble_dec, beq_dec, Bool.and_self, Bool.and_true, Bool.true_and, Bool.and_false, Bool.false_and, List.take_succ_cons, List.take_zero, List.drop_succ_cons, List.drop_zero, List.take_nil, List.drop_nil, List.append_nil, eqAV, eqAVL, BEq.rfl, eqA, eqD, sameS, Option.map, Option.isNone, addrA, wrap64, gt_iff_lt, ge_iff_le, Int.lt_irrefl, Int.le_refl]
  · rintro n fr H' ⟨p, hni, hp, rfl, g0, g1, g5⟩
    by_cases hlt : p ≤ 6
    · have hw : IntKind.i64.wrap (p + 1) = p + 1 := wrap64 (by omega) (by omega)
      simp -implicitDefEqProofs only [g0, g1, g5, hlt, ↓WP_seq, ↓WP_skip, ↓WP_region, ↓WP_dregion, ↓WP_cond, ↓WP_block, ↓WP_exit, ↓WP_ret, ↓OW_nil, ↓OW_cons, ↓DW_nil, ↓DW_cons, ↓XW_call, XW, exA, KO_eq, KD_eq, OptK_some, EvK_some, GW2_true, GW2_false, KS_normal, KS_ret, KS_exit, KB_normal, KB_ret, KB_exit, CP2_bool, RP_ret, RP_normal, putA_some, putA_none, ev_t, ev_c, evs, evo, wantA, initA, resA, Tr.get_set, vl, chkOk, cond_true, cond_false, Nat.add_zero, Nat.mul_one, Nat.one_mul, Nat.zero_add, Nat.zero_mul, aggOf, pInt, binA, unA, intA, beq_true, beq_false, Bool.not_true, Bool.not_false, Bool.not_eq_true, and_self, and_true, true_and, ↓reduceIte, reduceIte, Nat.reduceEqDiff, Nat.succ_ne_self, Nat.reduceAdd, Nat.reduceMul, Nat.reduceSub, Nat.reduceBEq, Nat.reduceLT, Nat.reduceLeDiff, Int.cast_ofNat_Int, Int.reduceToNat, Int.reduceLT, Int.reduceLE, Int.reduceGE, Int.reduceGT, Int.reduceEq, Int.reduceNe, Int.reduceAdd, Int.reduceSub, Int.reduceNeg, decide_true, decide_false, Int.toNat_natCast, reduceCtorEq, List.nil_append, List.cons_append, AV.boxy, AV.cells, List.length_cons, List.length_nil, Nat.beq_refl, AOp.cl, ↓OW_guard, ↓DW_guard, KDW_0, KDW_1, KDW_2, OWskip_eq, DWskip_eq, fillA, setAt, DChk, DAt, stepA, ble_dec, beq_dec, Bool.and_self, Bool.and_true, Bool.true_and, Bool.and_false, Bool.false_and, List.take_succ_cons, List.take_zero, List.drop_succ_cons, List.drop_zero, List.take_nil, List.drop_nil, List.append_nil, eqAV, eqAVL, BEq.rfl, eqA, eqD, sameS, Option.map, Option.isNone, addrA, wrap64, gt_iff_lt, ge_iff_le, Int.lt_irrefl, Int.le_refl]
      refine CW.mono (c_Level h p) ?_
      rintro v H1 ⟨rfl, rfl⟩
      simp -implicitDefEqProofs only [g0, g1, g5, ↓WP_seq, ↓WP_skip, ↓WP_region, ↓WP_dregion, ↓WP_cond, ↓WP_block, ↓WP_exit, ↓WP_ret, ↓OW_nil, ↓OW_cons, ↓DW_nil, ↓DW_cons, ↓XW_call, XW, exA, KO_eq, KD_eq, OptK_some, EvK_some, GW2_true, GW2_false, KS_normal, KS_ret, KS_exit, KB_normal, KB_ret, KB_exit, CP2_bool, RP_ret, RP_normal, putA_some, putA_none, ev_t, ev_c, evs, evo, wantA, initA, resA, Tr.get_set, vl, chkOk, cond_true, cond_false, Nat.add_zero, Nat.mul_one, Nat.one_mul, Nat.zero_add, Nat.zero_mul, aggOf, pInt, binA, unA, intA, beq_true, beq_false, Bool.not_true, Bool.not_false, Bool.not_eq_true, and_self, and_true, true_and, ↓reduceIte, reduceIte, Nat.reduceEqDiff, Nat.succ_ne_self, Nat.reduceAdd, Nat.reduceMul, Nat.reduceSub, Nat.reduceBEq, Nat.reduceLT, Nat.reduceLeDiff, Int.cast_ofNat_Int, Int.reduceToNat, Int.reduceLT, Int.reduceLE, Int.reduceGE, Int.reduceGT, Int.reduceEq, Int.reduceNe, Int.reduceAdd, Int.reduceSub, Int.reduceNeg, decide_true, decide_false, Int.toNat_natCast, reduceCtorEq, List.nil_append, List.cons_append, AV.boxy, AV.cells, List.length_cons, List.length_nil, Nat.beq_refl, AOp.cl, ↓OW_guard, ↓DW_guard, KDW_0, KDW_1, KDW_2, OWskip_eq, DWskip_eq, fillA, setAt, DChk, DAt, stepA, ble_dec, beq_dec, Bool.and_self, Bool.and_true, Bool.true_and, Bool.and_false, Bool.false_and, List.take_succ_cons, List.take_zero, List.drop_succ_cons, List.drop_zero, List.take_nil, List.drop_nil, List.append_nil, eqAV, eqAVL, BEq.rfl, eqA, eqD, sameS, Option.map, Option.isNone, addrA, wrap64, gt_iff_lt, ge_iff_le, Int.lt_irrefl, Int.le_refl]
      refine CW.mono (c_rLevel h' hi p (by omega)) ?_
      rintro v H2 ⟨rfl, rfl⟩
      simp -implicitDefEqProofs only [g0, g1, g5, iv, hw, bne_self_eq_false, Bool.false_eq_true, ↓WP_seq, ↓WP_skip, ↓WP_region, ↓WP_dregion, ↓WP_cond, ↓WP_block, ↓WP_exit, ↓WP_ret, ↓OW_nil, ↓OW_cons, ↓DW_nil, ↓DW_cons, ↓XW_call, XW, exA, KO_eq, KD_eq, OptK_some, EvK_some, GW2_true, GW2_false, KS_normal, KS_ret, KS_exit, KB_normal, KB_ret, KB_exit, CP2_bool, RP_ret, RP_normal, putA_some, putA_none, ev_t, ev_c, evs, evo, wantA, initA, resA, Tr.get_set, vl, chkOk, cond_true, cond_false, Nat.add_zero, Nat.mul_one, Nat.one_mul, Nat.zero_add, Nat.zero_mul, aggOf, pInt, binA, unA, intA, beq_true, beq_false, Bool.not_true, Bool.not_false, Bool.not_eq_true, and_self, and_true, true_and, ↓reduceIte, reduceIte, Nat.reduceEqDiff, Nat.succ_ne_self, Nat.reduceAdd, Nat.reduceMul, Nat.reduceSub, Nat.reduceBEq, Nat.reduceLT, Nat.reduceLeDiff, Int.cast_ofNat_Int, Int.reduceToNat, Int.reduceLT, Int.reduceLE, Int.reduceGE, Int.reduceGT, Int.reduceEq, Int.reduceNe, Int.reduceAdd, Int.reduceSub, Int.reduceNeg, decide_true, decide_false, Int.toNat_natCast, reduceCtorEq, List.nil_append, List.cons_append, AV.boxy, AV.cells, List.length_cons, List.length_nil, Nat.beq_refl, AOp.cl, ↓OW_guard, ↓DW_guard, KDW_0, KDW_1, KDW_2, OWskip_eq, DWskip_eq, fillA, setAt, DChk, DAt, stepA, ble_dec, beq_dec, Bool.and_self, Bool.and_true, Bool.true_and, Bool.and_false, Bool.false_and, List.take_succ_cons, List.take_zero, List.drop_succ_cons, List.drop_zero, List.take_nil, List.drop_nil, List.append_nil, eqAV, eqAVL, BEq.rfl, eqA, eqD, sameS, Option.map, Option.isNone, addrA, wrap64, gt_iff_lt, ge_iff_le, Int.lt_irrefl, Int.le_refl]
      exact ⟨n - 1, by omega, p + 1, by omega, by omega, rfl⟩
    · simp -implicitDefEqProofs only [g0, g1, g5, hlt, Bool.false_eq_true, ↓WP_seq, ↓WP_skip, ↓WP_region, ↓WP_dregion, ↓WP_cond, ↓WP_block, ↓WP_exit, ↓WP_ret, ↓OW_nil, ↓OW_cons, ↓DW_nil, ↓DW_cons, ↓XW_call, XW, exA, KO_eq, KD_eq, OptK_some, EvK_some, GW2_true, GW2_false, KS_normal, KS_ret, KS_exit, KB_normal, KB_ret, KB_exit, CP2_bool, RP_ret, RP_normal, putA_some, putA_none, ev_t, ev_c, evs, evo, wantA, initA, resA, Tr.get_set, vl, chkOk, cond_true, cond_false, Nat.add_zero, Nat.mul_one, Nat.one_mul, Nat.zero_add, Nat.zero_mul, aggOf, pInt, binA, unA, intA, beq_true, beq_false, Bool.not_true, Bool.not_false, Bool.not_eq_true, and_self, and_true, true_and, ↓reduceIte, reduceIte, Nat.reduceEqDiff, Nat.succ_ne_self, Nat.reduceAdd, Nat.reduceMul, Nat.reduceSub, Nat.reduceBEq, Nat.reduceLT, Nat.reduceLeDiff, Int.cast_ofNat_Int, Int.reduceToNat, Int.reduceLT, Int.reduceLE, Int.reduceGE, Int.reduceGT, Int.reduceEq, Int.reduceNe, Int.reduceAdd, Int.reduceSub, Int.reduceNeg, decide_true, decide_false, Int.toNat_natCast, reduceCtorEq, List.nil_append, List.cons_append, AV.boxy, AV.cells, List.length_cons, List.length_nil, Nat.beq_refl, AOp.cl, ↓OW_guard, ↓DW_guard, KDW_0, KDW_1, KDW_2, OWskip_eq, DWskip_eq, fillA, setAt, DChk, DAt, stepA, ble_dec, beq_dec, Bool.and_self, Bool.and_true, Bool.true_and, Bool.and_false, Bool.false_and, List.take_succ_cons, List.take_zero, List.drop_succ_cons, List.drop_zero, List.take_nil, List.drop_nil, List.append_nil, eqAV, eqAVL, BEq.rfl, eqA, eqD, sameS, Option.map, Option.isNone, addrA, wrap64, gt_iff_lt, ge_iff_le, Int.lt_irrefl, Int.le_refl]
      refine CW.mono (c_First h.qlP) ?_
      rintro v H1 ⟨rfl, rfl⟩
      simp -implicitDefEqProofs only [g0, g1, g5, ↓WP_seq, ↓WP_skip, ↓WP_region, ↓WP_dregion, ↓WP_cond, ↓WP_block, ↓WP_exit, ↓WP_ret, ↓OW_nil, ↓OW_cons, ↓DW_nil, ↓DW_cons, ↓XW_call, XW, exA, KO_eq, KD_eq, OptK_some, EvK_some, GW2_true, GW2_false, KS_normal, KS_ret, KS_exit, KB_normal, KB_ret, KB_exit, CP2_bool, RP_ret, RP_normal, putA_some, putA_none, ev_t, ev_c, evs, evo, wantA, initA, resA, Tr.get_set, vl, chkOk, cond_true, cond_false, Nat.add_zero, Nat.mul_one, Nat.one_mul, Nat.zero_add, Nat.zero_mul, aggOf, pInt, binA, unA, intA, beq_true, beq_false, Bool.not_true, Bool.not_false, Bool.not_eq_true, and_self, and_true, true_and, ↓reduceIte, reduceIte, Nat.reduceEqDiff, Nat.succ_ne_self, Nat.reduceAdd, Nat.reduceMul, Nat.reduceSub, Nat.reduceBEq, Nat.reduceLT, Nat.reduceLeDiff, Int.cast_ofNat_Int, Int.reduceToNat, Int.reduceLT, Int.reduceLE, Int.reduceGE, Int.reduceGT, Int.reduceEq, Int.reduceNe, Int.reduceAdd, Int.reduceSub, Int.reduceNeg, decide_true, decide_false, Int.toNat_natCast, reduceCtorEq, List.nil_append, List.cons_append, AV.boxy, AV.cells, List.length_cons, List.length_nil, Nat.beq_refl, AOp.cl, ↓OW_guard, ↓DW_guard, KDW_0, KDW_1, KDW_2, OWskip_eq, DWskip_eq, fillA, setAt, DChk, DAt, stepA, ble_dec, beq_dec, Bool.and_self, Bool.and_true, Bool.true_and, Bool.and_false, Bool.false_and, List.take_succ_cons, List.take_zero, List.drop_succ_cons, List.drop_zero, List.take_nil, List.drop_nil, List.append_nil, eqAV, eqAVL, BEq.rfl, eqA, eqD, sameS, Option.map, Option.isNone, addrA, wrap64, gt_iff_lt, ge_iff_le, Int.lt_irrefl, Int.le_refl]
      refine CW.mono (c_rFirst h') ?_
      rintro v H2 ⟨rfl, rfl⟩
      simp -implicitDefEqProofs only [g0, g1, g5, iv, ↓WP_seq, ↓WP_skip, ↓WP_region, ↓WP_dregion, ↓WP_cond, ↓WP_block, ↓WP_exit, ↓WP_ret, ↓OW_nil, ↓OW_cons, ↓DW_nil, ↓DW_cons, ↓XW_call, XW, exA, KO_eq, KD_eq, OptK_some, EvK_some, GW2_true, GW2_false, KS_normal, KS_ret, KS_exit, KB_normal, KB_ret, KB_exit, CP2_bool, RP_ret, RP_normal, putA_some, putA_none, ev_t, ev_c, evs, evo, wantA, initA, resA, Tr.get_set, vl, chkOk, cond_true, cond_false, Nat.add_zero, Nat.mul_one, Nat.one_mul, Nat.zero_add, Nat.zero_mul, aggOf, pInt, binA, unA, intA, beq_true, beq_false, Bool.not_true, Bool.not_false, Bool.not_eq_true, and_self, and_true, true_and, ↓reduceIte, reduceIte, Nat.reduceEqDiff, Nat.succ_ne_self, Nat.reduceAdd, Nat.reduceMul, Nat.reduceSub, Nat.reduceBEq, Nat.reduceLT, Nat.reduceLeDiff, Int.cast_ofNat_Int, Int.reduceToNat, Int.reduceLT, Int.reduceLE, Int.reduceGE, Int.reduceGT, Int.reduceEq, Int.reduceNe, Int.reduceAdd, Int.reduceSub, Int.reduceNeg, decide_true, decide_false, Int.toNat_natCast, reduceCtorEq, List.nil_append, List.cons_append, AV.boxy, AV.cells, List.length_cons, List.length_nil, Nat.beq_refl, AOp.cl, ↓OW_guard, ↓DW_guard, KDW_0, KDW_1, KDW_2, OWskip_eq, DWskip_eq, fillA, setAt, DChk, DAt, stepA, ble_dec, beq_dec, Bool.and_self, Bool.and_true, Bool.true_and, Bool.and_false, Bool.false_and, List.take_succ_cons, List.take_zero, List.drop_succ_cons, List.drop_zero, List.take_nil, List.drop_nil, List.append_nil, eqAV, eqAVL, BEq.rfl, eqA, eqD, sameS, Option.map, Option.isNone, addrA, wrap64, gt_iff_lt, ge_iff_le, Int.lt_irrefl, Int.le_refl]
def QS0 : QS := ⟨fun _ => [], fun _ => 0, [], fun _ => 0, fun _ => false⟩
theorem Inv0 : Inv QS0 := by
  refine ⟨fun p => (by show 0 < 4; omega), fun l hl p hp => (by cases hp), fun p hp => (by cases hp), fun m => (by show 0 ≤ 1048576; omega), fun p => rfl⟩
def nilS : AV := .slice none 1 0 true
def zC : List AV := [nilS, nilS, nilS, nilS, nilS, nilS, nilS, nilS, iv 0, iv 0, iv 0, iv 0, nilS]
def zP : List AV := zC ++ [iv 0, iv 0, iv 0, iv 0, iv 0, iv 0, .bool false, .bool false, .bool false, .bool false, .bool false, .bool false]
def zR : List AV := zC ++ [iv 0, iv 0, iv 0, iv 0, iv 0, iv 0]
theorem all_lt25 {P : Nat → Prop} (h : P 0 ∧ P 1 ∧ P 2 ∧ P 3 ∧ P 4 ∧ P 5 ∧ P 6 ∧ P 7 ∧ P 8 ∧ P 9 ∧ P 10 ∧ P 11 ∧ P 12 ∧ P 13 ∧ P 14 ∧ P 15 ∧ P 16 ∧ P 17 ∧ P 18) (h' : P 19 ∧ P 20 ∧ P 21 ∧ P 22 ∧ P 23 ∧ P 24) (i : Nat) (hi : i < 25) : P i := by
  obtain ⟨h0, h1, h2, h3, h4, h5, h6, h7, h8, h9, h10, h11, h12, h13, h14, h15, h16, h17, h18⟩ := h
  obtain ⟨h19, h20, h21, h22, h23, h24⟩ := h'
  match i, hi with
  | 0, _ => exact h0
  | 1, _ => exact h1
  | 2, _ => exact h2
  | 3, _ => exact h3
  | 4, _ => exact h4
  | 5, _ => exact h5
  | 6, _ => exact h6
  | 7, _ => exact h7
  | 8, _ => exact h8
  | 9, _ => exact h9
  | 10, _ => exact h10
  | 11, _ => exact h11
  | 12, _ => exact h12
  | 13, _ => exact h13
  | 14, _ => exact h14
  | 15, _ => exact h15
  | 16, _ => exact h16
  | 17, _ => exact h17
  | 18, _ => exact h18
  | 19, _ => exact h19
  | 20, _ => exact h20
  | 21, _ => exact h21
  | 22, _ => exact h22
  | 23, _ => exact h23
  | 24, _ => exact h24
  | n + 25, h => omega
def ofZ (l : List AV) (i : Nat) : AV := (l[i]?).getD .nilFunc
theorem new_QC (l : List AV) (g : Nat → SV) (hub' : (l.all fun v => (ub v).isNone) = true) (hg : ∀ i, i < l.length → SVok (H.newRow l) (fun _ => False) (g i) (ofZ l i)) : QC (H.newRow l) H.next l.length (ofZ l) (fun _ => False) g := by
  have hub : ∀ v, v ∈ l → ub v = none := fun v hv => by simpa using List.all_eq_true.1 hub' v hv
  refine ⟨Blk.newRow H l _ fun i v hv => by simp [ofZ, hv], by simp, by simp, hg, fun i j x hi hj _ h1 _ => ?_⟩
  rw [hub (ofZ l i) (by simp [ofZ, hi])] at h1
  cases h1
theorem new_P : QC (H.newRow zP) H.next 25 (ofZ zP) (fun _ => False) (gP QS0) := by
  refine new_QC zP (gP QS0) rfl ?_
  have n1 : ∀ g, g = SV.sl 1 0 [] → SVok (H.newRow zP) (fun _ => False) g nilS := by rintro g rfl; exact .inl ⟨⟨1, rfl⟩, rfl, rfl⟩
  have n2 : ∀ g, g = SV.sl 2 0 [] → SVok (H.newRow zP) (fun _ => False) g nilS := by rintro g rfl; exact .inl ⟨⟨1, rfl⟩, rfl, rfl⟩
  have n3 : ∀ g, g = SV.sc (iv 0) → SVok (H.newRow zP) (fun _ => False) g (iv 0) := by rintro g rfl; exact ⟨rfl, rfl⟩
  have n4 : ∀ g, g = SV.sc (.bool false) → SVok (H.newRow zP) (fun _ => False) g (.bool false) := by rintro g rfl; exact ⟨rfl, rfl⟩
  exact all_lt25 ⟨n1 _ rfl, n1 _ rfl, n1 _ rfl, n1 _ rfl, n1 _ rfl, n1 _ rfl, n1 _ rfl, n1 _ rfl, n3 _ rfl, n3 _ rfl, n3 _ rfl, n3 _ rfl, n2 _ rfl, n3 _ rfl, n3 _ rfl, n3 _ rfl, n3 _ rfl, n3 _ rfl, n3 _ rfl⟩ ⟨n4 _ rfl, n4 _ rfl, n4 _ rfl, n4 _ rfl, n4 _ rfl, n4 _ rfl⟩
theorem new_R : QC (H.newRow zR) H.next 19 (ofZ zR) (fun _ => False) (gR QS0) := by
  refine new_QC zR (gR QS0) rfl ?_
  have n1 : ∀ g, g = SV.sl 1 0 [] → SVok (H.newRow zR) (fun _ => False) g nilS := by rintro g rfl; exact .inl ⟨⟨1, rfl⟩, rfl, rfl⟩
  have n2 : ∀ g, g = SV.sl 2 0 [] → SVok (H.newRow zR) (fun _ => False) g nilS := by rintro g rfl; exact .inl ⟨⟨1, rfl⟩, rfl, rfl⟩
  have n3 : ∀ g, g = SV.sc (iv 0) → SVok (H.newRow zR) (fun _ => False) g (iv 0) := by rintro g rfl; exact ⟨rfl, rfl⟩
  intro i hi
  have hi' : i < 19 := hi
  exact all_lt25 (P := fun i => i < 19 → SVok (H.newRow zR) (fun _ => False) (gR QS0 i) (ofZ zR i)) ⟨fun _ => n1 _ rfl, fun _ => n1 _ rfl, fun _ => n1 _ rfl, fun _ => n1 _ rfl, fun _ => n1 _ rfl, fun _ => n1 _ rfl, fun _ => n1 _ rfl, fun _ => n1 _ rfl, fun _ => n3 _ rfl, fun _ => n3 _ rfl, fun _ => n3 _ rfl, fun _ => n3 _ rfl, fun _ => n2 _ rfl, fun _ => n3 _ rfl, fun _ => n3 _ rfl, fun _ => n3 _ rfl, fun _ => n3 _ rfl, fun _ => n3 _ rfl, fun _ => n3 _ rfl⟩
    ⟨by omega, by omega, by omega, by omega, by omega, by omega⟩ i (by omega) hi'
theorem c_New : CW M0 30 [] H fun v H' => v = .ptr (some (H.next, 0)) ∧ H' = H.newRow zP := by
  refine CW_of (fn := af30) rfl ?_
  unfold af30
  simp -implicitDefEqProofs only [↓WP_seq, ↓WP_skip, ↓WP_region, ↓WP_dregion, ↓WP_cond, ↓WP_block, ↓WP_exit, ↓WP_ret, ↓OW_nil, ↓OW_cons, ↓DW_nil, ↓DW_cons, ↓XW_call, XW, exA, KO_eq, KD_eq, OptK_some, EvK_some, GW2_true, GW2_false, KS_normal, KS_ret, KS_exit, KB_normal, KB_ret, KB_exit, CP2_bool, RP_ret, RP_normal, putA_some, putA_none, ev_t, ev_c, evs, evo, wantA, initA, resA, Tr.get_set, vl, chkOk, cond_true, cond_false, Nat.add_zero, Nat.mul_one, Nat.one_mul, Nat.zero_add, Nat.zero_mul, aggOf, pInt, binA, unA, intA, beq_true, beq_false, Bool.not_true, Bool.not_false, Bool.not_eq_true, and_self, and_true, true_and, ↓reduceIte, reduceIte, Nat.reduceEqDiff, Nat.succ_ne_self, Nat.reduceAdd, Nat.reduceMul, Nat.reduceSub, Nat.reduceBEq, Nat.reduceLT, Nat.reduceLeDiff, Int.cast_ofNat_Int, Int.reduceToNat, Int.reduceLT, Int.reduceLE, Int.reduceGE, Int.reduceGT, Int.reduceEq, Int.reduceNe, Int.reduceAdd, Int.reduceSub, Int.reduceNeg, decide_true, decide_false, Int.toNat_natCast, reduceCtorEq, List.nil_append, List.cons_append, AV.boxy, AV.cells, List.length_cons, List.length_nil, Nat.beq_refl, AOp.cl, ↓OW_guard, ↓DW_guard, KDW_0, KDW_1, KDW_2, OWskip_eq, DWskip_eq, fillA, setAt, DChk, DAt, stepA, ble_dec, beq_dec, Bool.and_self, Bool.and_true, Bool.true_and, Bool.and_false, Bool.false_and, List.take_succ_cons, List.take_zero, List.drop_succ_cons, List.drop_zero, List.take_nil, List.drop_nil, List.append_nil, eqAV, eqAVL, BEq.rfl, eqA, eqD, sameS, Option.map, Option.isNone, addrA, wrap64, gt_iff_lt, ge_iff_le, Int.lt_irrefl, Int.le_refl]
  rfl
end
end Go.Proofs.Ytldlolpbnfgdeaa.AA
namespace Go.Proofs.Ytldlolpbnfgdeaa.AA
open Go Go.RowKit
set_option maxRecDepth 100000
attribute [local irreducible] Tr.set
set_option maxHeartbeats 2000000
abbrev Ask := Int × Int × Int × Int
def askc (l : List Ask) : List AV := l.flatMap fun a => [iv a.1, iv a.2.1, iv a.2.2.1, iv a.2.2.2]
section
variable {H : AHeap} {K : Nat → Prop} {q w : Nat} {s1 s2 s : QS}
/-- Both queues, side by side, away from K. -/
def Duo (K : Nat → Prop) (H : AHeap) (q w : Nat) (s1 s2 : QS) : Prop := q ≠ w ∧ (∀ y, K y → y < H.next ∧ y ≠ q ∧ y ≠ w) ∧ ∃ f D f' D', QC H q 25 f D (gP s1) ∧ QC H w 19 f' D' (gR s2) ∧ (∀ z, D z → z ≠ w ∧ ¬ D' z ∧ ¬ K z) ∧ ∀ z, D' z → z ≠ q ∧ ¬ K z
theorem Duo.step {H' : AHeap} (h : Duo K H q w s1 s2) (hc : Chg H H' none) : Duo K H' q w s1 s2 := by
  obtain ⟨hne, hK, f, D, f', D', h1, h2, d1, d2⟩ := h
  have hk : ∀ x, x < H.next → H'.get x = H.get x := fun x hx => hc.keep hx (by simp)
  exact ⟨hne, fun y hy => by have := hK y hy; have := hc.1; exact ⟨by omega, by omega, by omega⟩, f, D, f', D', h1.step hc.1 (hk q h1.blk.1) fun z hz => hk z (h1.dn z hz), h2.step hc.1 (hk w h2.blk.1) fun z hz => hk z (h2.dn z hz), d1, d2⟩
/-- A call on the one, then one on the other. -/
theorem Duo.both (h : Duo K H q w s1 s2) : ∃ f D f' D', QC H q 25 f D (gP s1) ∧ (∀ z, D' z → z < H.next) ∧ w < H.next ∧ ∀ H' s', Go H H' q 25 D (gP s') → QC H' w 19 f' D' (gR s2) ∧ (∀ y, K y → H'.get y = H.get y) ∧ ∀ H'' s'', Go H' H'' w 19 D' (gR s'') → Duo K H'' q w s' s'' ∧ ∀ y, K y → H''.get y = H'.get y := by
  obtain ⟨hne, hK, f, D, f', D', h1, h2, d1, d2⟩ := h
  refine ⟨f, D, f', D', h1, h2.dn, h2.blk.1, fun H' s' hg => ?_⟩
  have hn := hg.2.1
  have hk : ∀ y, K y → H'.get y = H.get y := fun y hy => by
    have := hK y hy
    exact hg.2.2 y this.1 this.2.1 fun e => (d1 y e).2.2 hy
  obtain ⟨⟨f1, q1⟩, fp⟩ := hg
  have h2' : QC H' w 19 f' D' (gR s2) := h2.frame fp (Ne.symm hne) (fun e => (d1 w e).1 rfl) fun z hz => ⟨(d2 z hz).1, fun e => (d1 z e).2.1 hz⟩
  refine ⟨h2', hk, fun H'' s'' hg' => ?_⟩
  have hn' := hg'.2.1
  have hk' : ∀ y, K y → H''.get y = H'.get y := fun y hy => by
    have := hK y hy
    exact hg'.2.2 y (by omega) this.2.2 fun e => (d2 y e).2 hy
  obtain ⟨⟨f2, q2⟩, fp'⟩ := hg'
  have hq := h1.blk.1
  have hw := h2.blk.1
  refine ⟨⟨hne, fun y hy => by have := hK y hy; exact ⟨by omega, by omega, by omega⟩, f1, _, f2, _, q1.frame fp' hne (fun e => (d2 q e).1 rfl) fun z hz => ?_, q2, ?_, ?_⟩, hk'⟩
  · rcases hz with hz | hz
    · exact ⟨(d1 z hz).1, (d1 z hz).2.1⟩
    · exact ⟨by omega, fun e => by have := h2.dn z e; omega⟩
  · rintro z (hz | hz)
    · refine ⟨(d1 z hz).1, ?_, (d1 z hz).2.2⟩
      rintro (e | e)
      · exact (d1 z hz).2.1 e
      · have := h1.dn z hz; omega
    · refine ⟨by omega, ?_, fun e => by have := hK z e; omega⟩
      rintro (e | e)
      · have := h2.dn z e; omega
      · omega
  · rintro z (hz | hz)
    · exact d2 z hz
    · exact ⟨by omega, fun e => by have := hK z e; omega⟩
theorem Duo.sub {K' : Nat → Prop} (h : Duo K H q w s1 s2) (hk : ∀ y, K' y → K y) : Duo K' H q w s1 s2 := by
  obtain ⟨hne, hK, f, D, f', D', h1, h2, d1, d2⟩ := h
  exact ⟨hne, fun y hy => hK y (hk y hy), f, D, f', D', h1, h2, fun z hz => ⟨(d1 z hz).1, (d1 z hz).2.1, fun e => (d1 z hz).2.2 (hk z e)⟩, fun z hz => ⟨(d2 z hz).1, fun e => (d2 z hz).2 (hk z e)⟩⟩
theorem c_sameD (h : Duo K H q w s s) (hi : Inv s) : CW M0 71 [.ptr (some (q, 0)), .ptr (some (w, 0))] H fun u H' => u = .bool true ∧ H' = H := by
  obtain ⟨hne, hK, f, D, f', D', h1, h2, d1, d2⟩ := h
  exact c_same h1 h2 hi
/-- One more block is kept. -/
theorem Duo.more {K' : Nat → Prop} {H' : AHeap} (h : Duo K H q w s1 s2) (hc : Chg H H' none) {y : Nat} (hy : H.next ≤ y) (hy' : y < H'.next) (hK' : ∀ z, K' z → K z ∨ z = y) : Duo K' H' q w s1 s2 := by
  obtain ⟨hne, hK, f, D, f', D', h1, h2, d1, d2⟩ := h
  have hk : ∀ x, x < H.next → H'.get x = H.get x := fun x hx => hc.keep hx (by simp)
  have hq := h1.blk.1
  have hw := h2.blk.1
  have hn := hc.1
  refine ⟨hne, fun z hz => ?_, f, D, f', D', h1.step hc.1 (hk q h1.blk.1) fun z hz => hk z (h1.dn z hz), h2.step hc.1 (hk w h2.blk.1) fun z hz => hk z (h2.dn z hz), fun z hz => ⟨(d1 z hz).1, (d1 z hz).2.1, fun e => ?_⟩, fun z hz => ⟨(d2 z hz).1, fun e => ?_⟩⟩
  · rcases hK' z hz with h' | h'
    · have := hK z h'; exact ⟨by omega, by omega, by omega⟩
    · exact ⟨by omega, by omega, by omega⟩
  · rcases hK' z e with h' | h'
    · exact (d1 z hz).2.2 h'
    · have := h1.dn z hz; omega
  · rcases hK' z e with h' | h'
    · exact (d2 z hz).2 h'
    · have := h2.dn z hz; omega
theorem askc_append (l l' : List Ask) : askc (l ++ l') = askc l ++ askc l' := by simp [askc]
theorem askc_len (l : List Ask) : (askc l).length = l.length * 4 := by
  induction l with
  | nil => rfl
  | cons x l ih => simp [askc] at ih ⊢; omega
theorem Rd.four {H : AHeap} {x o : Nat} {l1 l2 : List Ask} {y : Ask} {i : Nat} (h : Rd H x o (askc (l1 ++ y :: l2))) (hl : l1.length = i) : loadA H x (o + i * 4) 4 = some [.int .i64 y.1, .int .i64 y.2.1, .int .i64 y.2.2.1, .int .i64 y.2.2.2] := by
  have e : askc (l1 ++ y :: l2) = askc l1 ++ [.int .i64 y.1, .int .i64 y.2.1, .int .i64 y.2.2.1, .int .i64 y.2.2.2] ++ askc l2 := by rw [askc_append, List.append_assoc]; rfl
  exact (h.sub (n := 0) (i := i * 4) ⟨askc l1, askc l2, e, by rw [askc_len, hl]⟩).load rfl
/-- A slice that is only looked at. -/
def Sv (H : AHeap) (v : AV) (n : Nat) (cs : List AV) : Prop := ∃ a s0 cl, v = .slice a s0 n cl ∧ (n ≠ 0 → ∃ x o, a = some (x, o) ∧ Rd H x o cs)
theorem Sl.sv {D : Nat → Prop} {m n : Nat} {v : AV} {cs : List AV} (h : Sl H D m v n cs) : Sv H v n cs := by
  rcases h with ⟨⟨s0, rfl⟩, rfl, rfl⟩ | ⟨x, i, cl, rfl, -, -, hr, -⟩
  · exact ⟨none, s0, true, rfl, fun h => absurd rfl h⟩
  · exact ⟨some (x, i), m, cl, rfl, fun _ => ⟨x, i, rfl, hr⟩⟩
theorem Sv.keep {H' : AHeap} {n : Nat} {v : AV} {cs : List AV} (h : Sv H v n cs) (hc : Chg H H' none) : Sv H' v n cs := by
  obtain ⟨a, s0, cl, rfl, h⟩ := h
  refine ⟨a, s0, cl, rfl, fun hn => ?_⟩
  obtain ⟨x, o, e, hr⟩ := h hn
  exact ⟨x, o, e, Rd.keep hr hc.1 (hc.keep hr.1 (by simp))⟩
theorem c_play {v : AV} {l : List Ask} (hs : Sv H v l.length (askc l)) (hl : (l.length : Int) ≤ 9223372036854775807) : CW M0 27 [v] H fun u H' => u = .bool true ∧ Chg H H' none := by
  refine CW_of (fn := af27) rfl ?_
  obtain ⟨a, s0, cl, ev, hrd⟩ := hs
  subst ev
  unfold af27
  simp -implicitDefEqProofs only [↓WP_seq, ↓WP_skip, ↓WP_region, ↓WP_dregion, ↓WP_cond, ↓WP_block, ↓WP_exit, ↓WP_ret, ↓OW_nil, ↓OW_cons, ↓DW_nil, ↓DW_cons, ↓XW_call, XW, exA, KO_eq, KD_eq, OptK_some, EvK_some, GW2_true, GW2_false, KS_normal, KS_ret, KS_exit, KB_normal, KB_ret, KB_exit, CP2_bool, RP_ret, RP_normal, putA_some, putA_none, ev_t, ev_c, evs, evo, wantA, initA, resA, Tr.get_set, vl, chkOk, cond_true, cond_false, Nat.add_zero, Nat.mul_one, Nat.one_mul, Nat.zero_add, Nat.zero_mul, aggOf, pInt, binA, unA, intA, beq_true, beq_false, Bool.not_true, Bool.not_false, Bool.not_eq_true, and_self, and_true, true_and, ↓reduceIte, reduceIte, Nat.reduceEqDiff, Nat.succ_ne_self, Nat.reduceAdd, Nat.reduceMul, Nat.reduceSub, Nat.reduceBEq, Nat.reduceLT, Nat.reduceLeDiff, Int.cast_ofNat_Int, Int.reduceToNat, Int.reduceLT, Int.reduceLE, Int.reduceGE, Int.reduceGT, Int.reduceEq, Int.reduceNe, Int.reduceAdd, Int.reduceSub, Int.reduceNeg, decide_true, decide_false, Int.toNat_natCast, reduceCtorEq, List.nil_append, List.cons_append, AV.boxy, AV.cells, List.length_cons, List.length_nil, Nat.beq_refl, AOp.cl, ↓OW_guard, ↓DW_guard, KDW_0, KDW_1, KDW_2, OWskip_eq, DWskip_eq, fillA, setAt, DChk, DAt, stepA, ble_dec, beq_dec, Bool.and_self, Bool.and_true, Bool.true_and, Bool.and_false, Bool.false_and, List.take_succ_cons, List.take_zero, List.drop_succ_cons, List.drop_zero, List.take_nil, List.drop_nil, List.append_nil, eqAV, eqAVL, BEq.rfl, eqA, eqD, sameS, Option.map, Option.isNone, addrA, wrap64, gt_iff_lt, ge_iff_le, Int.lt_irrefl, Int.le_refl]
  refine CW.mono c_New ?_
  rintro u H1 ⟨rfl, rfl⟩
  simp -implicitDefEqProofs only [↓WP_seq, ↓WP_skip, ↓WP_region, ↓WP_dregion, ↓WP_cond, ↓WP_block, ↓WP_exit, ↓WP_ret, ↓OW_nil, ↓OW_cons, ↓DW_nil, ↓DW_cons, ↓XW_call, XW, exA, KO_eq, KD_eq, OptK_some, EvK_some, GW2_true, GW2_false, KS_normal, KS_ret, KS_exit, KB_normal, KB_ret, KB_exit, CP2_bool, RP_ret, RP_normal, putA_some, putA_none, ev_t, ev_c, evs, evo, wantA, initA, resA, Tr.get_set, vl, chkOk, cond_true, cond_false, Nat.add_zero, Nat.mul_one, Nat.one_mul, Nat.zero_add, Nat.zero_mul, aggOf, pInt, binA, unA, intA, beq_true, beq_false, Bool.not_true, Bool.not_false, Bool.not_eq_true, and_self, and_true, true_and, ↓reduceIte, reduceIte, Nat.reduceEqDiff, Nat.succ_ne_self, Nat.reduceAdd, Nat.reduceMul, Nat.reduceSub, Nat.reduceBEq, Nat.reduceLT, Nat.reduceLeDiff, Int.cast_ofNat_Int, Int.reduceToNat, Int.reduceLT, Int.reduceLE, Int.reduceGE, Int.reduceGT, Int.reduceEq, Int.reduceNe, Int.reduceAdd, Int.reduceSub, Int.reduceNeg, decide_true, decide_false, Int.toNat_natCast, reduceCtorEq, List.nil_append, List.cons_append, AV.boxy, AV.cells, List.length_cons, List.length_nil, Nat.beq_refl, AOp.cl, ↓OW_guard, ↓DW_guard, KDW_0, KDW_1, KDW_2, OWskip_eq, DWskip_eq, fillA, setAt, DChk, DAt, stepA, ble_dec, beq_dec, Bool.and_self, Bool.and_true, Bool.true_and, Bool.and_false, Bool.false_and, List.take_succ_cons, List.take_zero, List.drop_succ_cons, List.drop_zero, List.take_nil, List.drop_nil, List.append_nil, eqAV, eqAVL, BEq.rfl, eqA, eqD, sameS, Option.map, Option.isNone, addrA, wrap64, gt_iff_lt, ge_iff_le, Int.lt_irrefl, Int.le_refl]
  have ch1 := Chg.newRow H zP
  have ch2 := Chg.newRow (H.newRow zP) zR
  have ez : zR = [.slice none 1 0 true, .slice none 1 0 true, .slice none 1 0 true, .slice none 1 0 true, .slice none 1 0 true, .slice none 1 0 true, .slice none 1 0 true, .slice none 1 0 true, .int .i64 0, .int .i64 0, .int .i64 0, .int .i64 0, .slice none 1 0 true, .int .i64 0, .int .i64 0, .int .i64 0, .int .i64 0, .int .i64 0, .int .i64 0] := rfl
  rw [← ez]
  have en : (H.newRow zP).next = H.next + 1 := rfl
  have duo0 : Duo (fun y => y < H.next) ((H.newRow zP).newRow zR) H.next (H.next + 1) QS0 QS0 := by
    refine ⟨by omega, fun y hy => ⟨?_, by omega, by omega⟩, _, _, _, _, (new_P (H := H)).step ch2.1 (ch2.keep (by rw [en]; omega) (by simp)) (by simp), new_R (H := H.newRow zP), by simp, by simp⟩
    have : ((H.newRow zP).newRow zR).next = H.next + 2 := rfl
    omega
  have I0 := Inv0
  refine WP_loop (fun n fr H' => ∃ (i : Nat) (s : QS), n + i = 150 ∧ i ≤ l.length ∧ Inv s ∧ Chg H H' none ∧ fr.get 0 = some (.slice a s0 l.length cl) ∧ fr.get 3 = some (.ptr (some (H.next, 0))) ∧ fr.get 4 = some (.ptr (some (H.next + 1, 0))) ∧ fr.get 5 = some (.int .i64 i) ∧ Duo (fun y => y < H.next) H' H.next (H.next + 1) s s) 150 ?_ ?_
  · refine ⟨0, QS0, rfl, by omega, I0, ch1.trans ch2, ?_⟩
    simp -implicitDefEqProofs only [en, ↓WP_seq, ↓WP_skip, ↓WP_region, ↓WP_dregion, ↓WP_cond, ↓WP_block, ↓WP_exit, ↓WP_ret, ↓OW_nil, ↓OW_cons, ↓DW_nil, ↓DW_cons, ↓XW_call, XW, exA, KO_eq, KD_eq, OptK_some, EvK_some, GW2_true, GW2_false, KS_normal, KS_ret, KS_exit, KB_normal, KB_ret, KB_exit, CP2_bool, RP_ret, RP_normal, putA_some, putA_none, ev_t, ev_c, evs, evo, wantA, initA, resA, Tr.get_set, vl, chkOk, cond_true, cond_false, Nat.add_zero, Nat.mul_one, Nat.one_mul, Nat.zero_add, Nat.zero_mul, aggOf, pInt, binA, unA, intA, beq_true, beq_false, Bool.not_true, Bool.not_false, Bool.not_eq_true, and_self, and_true, true_and, ↓reduceIte, reduceIte, Nat.reduceEqDiff, Nat.succ_ne_self, Nat.reduceAdd, Nat.reduceMul, Nat.reduceSub, Nat.reduceBEq, Nat.reduceLT, Nat.reduceLeDiff, Int.cast_ofNat_Int, Int.reduceToNat, Int.reduceLT, Int.reduceLE, Int.reduceGE, Int.reduceGT, Int.reduceEq, Int.reduceNe, Int.reduceAdd, Int.reduceSub, Int.reduceNeg, decide_true, decide_false, Int.toNat_natCast, reduceCtorEq, List.nil_append, List.cons_append, AV.boxy, AV.cells, List.length_cons, List.length_nil, Nat.beq_refl, AOp.cl, ↓OW_guard, ↓DW_guard, KDW_0, KDW_1, KDW_2, OWskip_eq, DWskip_eq, fillA, setAt, DChk, DAt, stepA, ble_dec, beq_dec, Bool.and_self, Bool.and_true, Bool.true_and, Bool.and_false, Bool.false_and, List.take_succ_cons, List.take_zero, List.drop_succ_cons, List.drop_zero, List.take_nil, List.drop_nil, List.append_nil, eqAV, eqAVL, BEq.rfl, eqA, eqD, sameS, Option.map, Option.isNone, addrA, wrap64, gt_iff_lt, ge_iff_le, Int.lt_irrefl, Int.le_refl]
    exact duo0
  · rintro n fr H1 ⟨i, s, hni, hil, inv, ch, g0, g3, g4, g5, duo⟩
    have hend : (by exact True) := trivial
    by_cases hlt : i < l.length ∧ i < 150
    · obtain ⟨l1, x, l2, hx, hl1, ht1, ht2⟩ := split_at hlt.1
      have hlt' : (i : Int) < (l.length : Int) := by omega
      have hlt2 : (i : Int) < 150 := by omega
      have hi0 : (0 : Int) ≤ i := by omega
      obtain ⟨y, o, ea, e4⟩ := hrd (by omega)
      subst ea
      have r1 : Rd H1 y o (askc l) := e4.keep ch.1 (ch.keep e4.1 (by simp))
      have ld := (r1.congr (congrArg askc hx)).four hl1
      obtain ⟨H2, st, n2, ch2', r2⟩ := store_new H1 [.int .i64 0, .int .i64 0, .int .i64 0, .int .i64 0] [.int .i64 x.1, .int .i64 x.2.1, .int .i64 x.2.2.1, .int .i64 x.2.2.2] rfl
      have duo2 : Duo (fun z => z < H.next ∨ z = H1.next) H2 H.next (H.next + 1) s s := duo.more ch2' (Nat.le_refl _) (by omega) fun z hz => hz
      have rr : ∀ H', H2.next ≤ H'.next → H'.get H1.next = H2.get H1.next → (loadA H' H1.next 0 1 = some [.int .i64 x.1] ∧ loadA H' H1.next 1 1 = some [.int .i64 x.2.1] ∧ loadA H' H1.next 2 1 = some [.int .i64 x.2.2.1] ∧ loadA H' H1.next 3 1 = some [.int .i64 x.2.2.2]) := fun H' h1 h2 => by
        have r := r2.keep h1 h2
        have a0 := r.one (j := 0) (v := .int .i64 x.1) rfl
        have a1 := r.one (j := 1) (v := .int .i64 x.2.1) rfl
        have a2 := r.one (j := 2) (v := .int .i64 x.2.2.1) rfl
        have a3 := r.one (j := 3) (v := .int .i64 x.2.2.2) rfl
        simp only [Nat.zero_add] at a0 a1 a2 a3
        exact ⟨a0, a1, a2, a3⟩
      obtain ⟨a0, a1, a2, a3⟩ := rr H2 (Nat.le_refl _) rfl
      have hw : IntKind.i64.wrap ((i : Int) + 1) = ((i + 1 : Nat) : Int) := by rw [wrap64 (by omega) (by omega)]; omega
      have ch2 := ch.trans ch2'
      have hnn2 : H2.next = H1.next + 1 := n2
      by_cases k2 : x.1 = 2
      · have q2 : (x.1 == 2) = true := by simp [k2]
        simp -implicitDefEqProofs only [g0, g3, g4, g5, hlt', hlt2, hi0, ld, st, a0, a1, a2, a3, n2, Bool.false_eq_true, q2, ↓WP_seq, ↓WP_skip, ↓WP_region, ↓WP_dregion, ↓WP_cond, ↓WP_block, ↓WP_exit, ↓WP_ret, ↓OW_nil, ↓OW_cons, ↓DW_nil, ↓DW_cons, ↓XW_call, XW, exA, KO_eq, KD_eq, OptK_some, EvK_some, GW2_true, GW2_false, KS_normal, KS_ret, KS_exit, KB_normal, KB_ret, KB_exit, CP2_bool, RP_ret, RP_normal, putA_some, putA_none, ev_t, ev_c, evs, evo, wantA, initA, resA, Tr.get_set, vl, chkOk, cond_true, cond_false, Nat.add_zero, Nat.mul_one, Nat.one_mul, Nat.zero_add, Nat.zero_mul, aggOf, pInt, binA, unA, intA, beq_true, beq_false, Bool.not_true, Bool.not_false, Bool.not_eq_true, and_self, and_true, true_and, ↓reduceIte, reduceIte, Nat.reduceEqDiff, Nat.succ_ne_self, Nat.reduceAdd, Nat.reduceMul, Nat.reduceSub, Nat.reduceBEq, Nat.reduceLT, Nat.reduceLeDiff, Int.cast_ofNat_Int, Int.reduceToNat, Int.reduceLT, Int.reduceLE, Int.reduceGE, Int.reduceGT, Int.reduceEq, Int.reduceNe, Int.reduceAdd, Int.reduceSub, Int.reduceNeg, decide_true, decide_false, Int.toNat_natCast, reduceCtorEq, List.nil_append, List.cons_append, AV.boxy, AV.cells, List.length_cons, List.length_nil, Nat.beq_refl, AOp.cl, ↓OW_guard, ↓DW_guard, KDW_0, KDW_1, KDW_2, OWskip_eq, DWskip_eq, fillA, setAt, DChk, DAt, stepA, ble_dec, beq_dec, Bool.and_self, Bool.and_true, Bool.true_and, Bool.and_false, Bool.false_and, List.take_succ_cons, List.take_zero, List.drop_succ_cons, List.drop_zero, List.take_nil, List.drop_nil, List.append_nil, eqAV, eqAVL, BEq.rfl, eqA, eqD, sameS, Option.map, Option.isNone, addrA, wrap64, gt_iff_lt, ge_iff_le, Int.lt_irrefl, Int.le_refl]
        obtain ⟨f, D, f4, D4, hq, hD4, hw4, nq⟩ := duo2.both
        refine CW.mono (c_Turn hq inv) ?_
        rintro v3 H3 ⟨rfl, g3'⟩
        have hn3 := g3'.2.1
        obtain ⟨hw2, k3, nw⟩ := nq _ _ g3'
        obtain ⟨b0, b1, b2, b3⟩ := rr H3 hn3 (k3 _ (.inr rfl))
        simp -implicitDefEqProofs only [g0, g3, g4, g5, hlt', hlt2, hi0, ld, st, a0, a1, a2, a3, b0, b1, b2, b3, n2, Bool.false_eq_true, iv, q2, ↓WP_seq, ↓WP_skip, ↓WP_region, ↓WP_dregion, ↓WP_cond, ↓WP_block, ↓WP_exit, ↓WP_ret, ↓OW_nil, ↓OW_cons, ↓DW_nil, ↓DW_cons, ↓XW_call, XW, exA, KO_eq, KD_eq, OptK_some, EvK_some, GW2_true, GW2_false, KS_normal, KS_ret, KS_exit, KB_normal, KB_ret, KB_exit, CP2_bool, RP_ret, RP_normal, putA_some, putA_none, ev_t, ev_c, evs, evo, wantA, initA, resA, Tr.get_set, vl, chkOk, cond_true, cond_false, Nat.add_zero, Nat.mul_one, Nat.one_mul, Nat.zero_add, Nat.zero_mul, aggOf, pInt, binA, unA, intA, beq_true, beq_false, Bool.not_true, Bool.not_false, Bool.not_eq_true, and_self, and_true, true_and, ↓reduceIte, reduceIte, Nat.reduceEqDiff, Nat.succ_ne_self, Nat.reduceAdd, Nat.reduceMul, Nat.reduceSub, Nat.reduceBEq, Nat.reduceLT, Nat.reduceLeDiff, Int.cast_ofNat_Int, Int.reduceToNat, Int.reduceLT, Int.reduceLE, Int.reduceGE, Int.reduceGT, Int.reduceEq, Int.reduceNe, Int.reduceAdd, Int.reduceSub, Int.reduceNeg, decide_true, decide_false, Int.toNat_natCast, reduceCtorEq, List.nil_append, List.cons_append, AV.boxy, AV.cells, List.length_cons, List.length_nil, Nat.beq_refl, AOp.cl, ↓OW_guard, ↓DW_guard, KDW_0, KDW_1, KDW_2, OWskip_eq, DWskip_eq, fillA, setAt, DChk, DAt, stepA, ble_dec, beq_dec, Bool.and_self, Bool.and_true, Bool.true_and, Bool.and_false, Bool.false_and, List.take_succ_cons, List.take_zero, List.drop_succ_cons, List.drop_zero, List.take_nil, List.drop_nil, List.append_nil, eqAV, eqAVL, BEq.rfl, eqA, eqD, sameS, Option.map, Option.isNone, addrA, wrap64, gt_iff_lt, ge_iff_le, Int.lt_irrefl, Int.le_refl]
        refine CW.mono (c_rTurn hw2 inv) ?_
        rintro v4 H4 ⟨rfl, g4'⟩
        have hn4 := g4'.2.1
        obtain ⟨duo4, k4⟩ := nw _ _ g4'
        obtain ⟨c0, c1, c2, c3⟩ := rr H4 (by omega) (by rw [k4 _ (.inr rfl), k3 _ (.inr rfl)])
        simp -implicitDefEqProofs only [g0, g3, g4, g5, hlt', hlt2, hi0, ld, st, a0, a1, a2, a3, b0, b1, b2, b3, c0, c1, c2, c3, n2, Bool.false_eq_true, iv, q2, ↓WP_seq, ↓WP_skip, ↓WP_region, ↓WP_dregion, ↓WP_cond, ↓WP_block, ↓WP_exit, ↓WP_ret, ↓OW_nil, ↓OW_cons, ↓DW_nil, ↓DW_cons, ↓XW_call, XW, exA, KO_eq, KD_eq, OptK_some, EvK_some, GW2_true, GW2_false, KS_normal, KS_ret, KS_exit, KB_normal, KB_ret, KB_exit, CP2_bool, RP_ret, RP_normal, putA_some, putA_none, ev_t, ev_c, evs, evo, wantA, initA, resA, Tr.get_set, vl, chkOk, cond_true, cond_false, Nat.add_zero, Nat.mul_one, Nat.one_mul, Nat.zero_add, Nat.zero_mul, aggOf, pInt, binA, unA, intA, beq_true, beq_false, Bool.not_true, Bool.not_false, Bool.not_eq_true, and_self, and_true, true_and, ↓reduceIte, reduceIte, Nat.reduceEqDiff, Nat.succ_ne_self, Nat.reduceAdd, Nat.reduceMul, Nat.reduceSub, Nat.reduceBEq, Nat.reduceLT, Nat.reduceLeDiff, Int.cast_ofNat_Int, Int.reduceToNat, Int.reduceLT, Int.reduceLE, Int.reduceGE, Int.reduceGT, Int.reduceEq, Int.reduceNe, Int.reduceAdd, Int.reduceSub, Int.reduceNeg, decide_true, decide_false, Int.toNat_natCast, reduceCtorEq, List.nil_append, List.cons_append, AV.boxy, AV.cells, List.length_cons, List.length_nil, Nat.beq_refl, AOp.cl, ↓OW_guard, ↓DW_guard, KDW_0, KDW_1, KDW_2, OWskip_eq, DWskip_eq, fillA, setAt, DChk, DAt, stepA, ble_dec, beq_dec, Bool.and_self, Bool.and_true, Bool.true_and, Bool.and_false, Bool.false_and, List.take_succ_cons, List.take_zero, List.drop_succ_cons, List.drop_zero, List.take_nil, List.drop_nil, List.append_nil, eqAV, eqAVL, BEq.rfl, eqA, eqD, sameS, Option.map, Option.isNone, addrA, wrap64, gt_iff_lt, ge_iff_le, Int.lt_irrefl, Int.le_refl]
        have duoE := duo4.sub (K' := fun y => y < H.next) fun y hy => .inl hy
        refine CW.mono (c_sameD duoE (inv.mTurn)) ?_
        rintro v6 H6 ⟨rfl, rfl⟩
        simp -implicitDefEqProofs only [g0, g3, g4, g5, hlt', hlt2, hi0, ld, st, a0, a1, a2, a3, b0, b1, b2, b3, c0, c1, c2, c3, n2, Bool.false_eq_true, hw, iv, q2, ↓WP_seq, ↓WP_skip, ↓WP_region, ↓WP_dregion, ↓WP_cond, ↓WP_block, ↓WP_exit, ↓WP_ret, ↓OW_nil, ↓OW_cons, ↓DW_nil, ↓DW_cons, ↓XW_call, XW, exA, KO_eq, KD_eq, OptK_some, EvK_some, GW2_true, GW2_false, KS_normal, KS_ret, KS_exit, KB_normal, KB_ret, KB_exit, CP2_bool, RP_ret, RP_normal, putA_some, putA_none, ev_t, ev_c, evs, evo, wantA, initA, resA, Tr.get_set, vl, chkOk, cond_true, cond_false, Nat.add_zero, Nat.mul_one, Nat.one_mul, Nat.zero_add, Nat.zero_mul, aggOf, pInt, binA, unA, intA, beq_true, beq_false, Bool.not_true, Bool.not_false, Bool.not_eq_true, and_self, and_true, true_and, ↓reduceIte, reduceIte, Nat.reduceEqDiff, Nat.succ_ne_self, Nat.reduceAdd, Nat.reduceMul, Nat.reduceSub, Nat.reduceBEq, Nat.reduceLT, Nat.reduceLeDiff, Int.cast_ofNat_Int, Int.reduceToNat, Int.reduceLT, Int.reduceLE, Int.reduceGE, Int.reduceGT, Int.reduceEq, Int.reduceNe, Int.reduceAdd, Int.reduceSub, Int.reduceNeg, decide_true, decide_false, Int.toNat_natCast, reduceCtorEq, List.nil_append, List.cons_append, AV.boxy, AV.cells, List.length_cons, List.length_nil, Nat.beq_refl, AOp.cl, ↓OW_guard, ↓DW_guard, KDW_0, KDW_1, KDW_2, OWskip_eq, DWskip_eq, fillA, setAt, DChk, DAt, stepA, ble_dec, beq_dec, Bool.and_self, Bool.and_true, Bool.true_and, Bool.and_false, Bool.false_and, List.take_succ_cons, List.take_zero, List.drop_succ_cons, List.drop_zero, List.take_nil, List.drop_nil, List.append_nil, eqAV, eqAVL, BEq.rfl, eqA, eqD, sameS, Option.map, Option.isNone, addrA, wrap64, gt_iff_lt, ge_iff_le, Int.lt_irrefl, Int.le_refl]
        refine ⟨n - 1, by omega, i + 1, _, by omega, by omega, inv.mTurn, ⟨by have := ch2.1; omega, fun z hz => ?_⟩, rfl, duoE⟩
        have e : H6.get z = H.get z := by rw [k4 _ (.inl hz), k3 _ (.inl hz), ch2.keep hz (by simp)]
        exact ⟨.inl e, fun _ => e⟩
      have q2 : (x.1 == 2) = false := by simp [k2]
      by_cases k3 : x.1 = 3
      · have q3 : (x.1 == 3) = true := by simp [k3]
        simp -implicitDefEqProofs only [g0, g3, g4, g5, hlt', hlt2, hi0, ld, st, a0, a1, a2, a3, n2, Bool.false_eq_true, q2, q3, ↓WP_seq, ↓WP_skip, ↓WP_region, ↓WP_dregion, ↓WP_cond, ↓WP_block, ↓WP_exit, ↓WP_ret, ↓OW_nil, ↓OW_cons, ↓DW_nil, ↓DW_cons, ↓XW_call, XW, exA, KO_eq, KD_eq, OptK_some, EvK_some, GW2_true, GW2_false, KS_normal, KS_ret, KS_exit, KB_normal, KB_ret, KB_exit, CP2_bool, RP_ret, RP_normal, putA_some, putA_none, ev_t, ev_c, evs, evo, wantA, initA, resA, Tr.get_set, vl, chkOk, cond_true, cond_false, Nat.add_zero, Nat.mul_one, Nat.one_mul, Nat.zero_add, Nat.zero_mul, aggOf, pInt, binA, unA, intA, beq_true, beq_false, Bool.not_true, Bool.not_false, Bool.not_eq_true, and_self, and_true, true_and, ↓reduceIte, reduceIte, Nat.reduceEqDiff, Nat.succ_ne_self, Nat.reduceAdd, Nat.reduceMul, Nat.reduceSub, Nat.reduceBEq, Nat.reduceLT, Nat.reduceLeDiff, Int.cast_ofNat_Int, Int.reduceToNat, Int.reduceLT, Int.reduceLE, Int.reduceGE, Int.reduceGT, Int.reduceEq, Int.reduceNe, Int.reduceAdd, Int.reduceSub, Int.reduceNeg, decide_true, decide_false, Int.toNat_natCast, reduceCtorEq, List.nil_append, List.cons_append, AV.boxy, AV.cells, List.length_cons, List.length_nil, Nat.beq_refl, AOp.cl, ↓OW_guard, ↓DW_guard, KDW_0, KDW_1, KDW_2, OWskip_eq, DWskip_eq, fillA, setAt, DChk, DAt, stepA, ble_dec, beq_dec, Bool.and_self, Bool.and_true, Bool.true_and, Bool.and_false, Bool.false_and, List.take_succ_cons, List.take_zero, List.drop_succ_cons, List.drop_zero, List.take_nil, List.drop_nil, List.append_nil, eqAV, eqAVL, BEq.rfl, eqA, eqD, sameS, Option.map, Option.isNone, addrA, wrap64, gt_iff_lt, ge_iff_le, Int.lt_irrefl, Int.le_refl]
        obtain ⟨f, D, f4, D4, hq, hD4, hw4, nq⟩ := duo2.both
        refine CW.mono (c_Wait hq inv x.2.1) ?_
        rintro v3 H3 ⟨rfl, g3'⟩
        have hn3 := g3'.2.1
        obtain ⟨hw2, k3, nw⟩ := nq _ _ g3'
        obtain ⟨b0, b1, b2, b3⟩ := rr H3 hn3 (k3 _ (.inr rfl))
        simp -implicitDefEqProofs only [g0, g3, g4, g5, hlt', hlt2, hi0, ld, st, a0, a1, a2, a3, b0, b1, b2, b3, n2, Bool.false_eq_true, iv, q2, q3, ↓WP_seq, ↓WP_skip, ↓WP_region, ↓WP_dregion, ↓WP_cond, ↓WP_block, ↓WP_exit, ↓WP_ret, ↓OW_nil, ↓OW_cons, ↓DW_nil, ↓DW_cons, ↓XW_call, XW, exA, KO_eq, KD_eq, OptK_some, EvK_some, GW2_true, GW2_false, KS_normal, KS_ret, KS_exit, KB_normal, KB_ret, KB_exit, CP2_bool, RP_ret, RP_normal, putA_some, putA_none, ev_t, ev_c, evs, evo, wantA, initA, resA, Tr.get_set, vl, chkOk, cond_true, cond_false, Nat.add_zero, Nat.mul_one, Nat.one_mul, Nat.zero_add, Nat.zero_mul, aggOf, pInt, binA, unA, intA, beq_true, beq_false, Bool.not_true, Bool.not_false, Bool.not_eq_true, and_self, and_true, true_and, ↓reduceIte, reduceIte, Nat.reduceEqDiff, Nat.succ_ne_self, Nat.reduceAdd, Nat.reduceMul, Nat.reduceSub, Nat.reduceBEq, Nat.reduceLT, Nat.reduceLeDiff, Int.cast_ofNat_Int, Int.reduceToNat, Int.reduceLT, Int.reduceLE, Int.reduceGE, Int.reduceGT, Int.reduceEq, Int.reduceNe, Int.reduceAdd, Int.reduceSub, Int.reduceNeg, decide_true, decide_false, Int.toNat_natCast, reduceCtorEq, List.nil_append, List.cons_append, AV.boxy, AV.cells, List.length_cons, List.length_nil, Nat.beq_refl, AOp.cl, ↓OW_guard, ↓DW_guard, KDW_0, KDW_1, KDW_2, OWskip_eq, DWskip_eq, fillA, setAt, DChk, DAt, stepA, ble_dec, beq_dec, Bool.and_self, Bool.and_true, Bool.true_and, Bool.and_false, Bool.false_and, List.take_succ_cons, List.take_zero, List.drop_succ_cons, List.drop_zero, List.take_nil, List.drop_nil, List.append_nil, eqAV, eqAVL, BEq.rfl, eqA, eqD, sameS, Option.map, Option.isNone, addrA, wrap64, gt_iff_lt, ge_iff_le, Int.lt_irrefl, Int.le_refl]
        refine CW.mono (c_rWait hw2 inv x.2.1) ?_
        rintro v4 H4 ⟨rfl, g4'⟩
        have hn4 := g4'.2.1
        obtain ⟨duo4, k4⟩ := nw _ _ g4'
        obtain ⟨c0, c1, c2, c3⟩ := rr H4 (by omega) (by rw [k4 _ (.inr rfl), k3 _ (.inr rfl)])
        simp -implicitDefEqProofs only [g0, g3, g4, g5, hlt', hlt2, hi0, ld, st, a0, a1, a2, a3, b0, b1, b2, b3, c0, c1, c2, c3, n2, Bool.false_eq_true, iv, q2, q3, ↓WP_seq, ↓WP_skip, ↓WP_region, ↓WP_dregion, ↓WP_cond, ↓WP_block, ↓WP_exit, ↓WP_ret, ↓OW_nil, ↓OW_cons, ↓DW_nil, ↓DW_cons, ↓XW_call, XW, exA, KO_eq, KD_eq, OptK_some, EvK_some, GW2_true, GW2_false, KS_normal, KS_ret, KS_exit, KB_normal, KB_ret, KB_exit, CP2_bool, RP_ret, RP_normal, putA_some, putA_none, ev_t, ev_c, evs, evo, wantA, initA, resA, Tr.get_set, vl, chkOk, cond_true, cond_false, Nat.add_zero, Nat.mul_one, Nat.one_mul, Nat.zero_add, Nat.zero_mul, aggOf, pInt, binA, unA, intA, beq_true, beq_false, Bool.not_true, Bool.not_false, Bool.not_eq_true, and_self, and_true, true_and, ↓reduceIte, reduceIte, Nat.reduceEqDiff, Nat.succ_ne_self, Nat.reduceAdd, Nat.reduceMul, Nat.reduceSub, Nat.reduceBEq, Nat.reduceLT, Nat.reduceLeDiff, Int.cast_ofNat_Int, Int.reduceToNat, Int.reduceLT, Int.reduceLE, Int.reduceGE, Int.reduceGT, Int.reduceEq, Int.reduceNe, Int.reduceAdd, Int.reduceSub, Int.reduceNeg, decide_true, decide_false, Int.toNat_natCast, reduceCtorEq, List.nil_append, List.cons_append, AV.boxy, AV.cells, List.length_cons, List.length_nil, Nat.beq_refl, AOp.cl, ↓OW_guard, ↓DW_guard, KDW_0, KDW_1, KDW_2, OWskip_eq, DWskip_eq, fillA, setAt, DChk, DAt, stepA, ble_dec, beq_dec, Bool.and_self, Bool.and_true, Bool.true_and, Bool.and_false, Bool.false_and, List.take_succ_cons, List.take_zero, List.drop_succ_cons, List.drop_zero, List.take_nil, List.drop_nil, List.append_nil, eqAV, eqAVL, BEq.rfl, eqA, eqD, sameS, Option.map, Option.isNone, addrA, wrap64, gt_iff_lt, ge_iff_le, Int.lt_irrefl, Int.le_refl]
        have duoE := duo4.sub (K' := fun y => y < H.next) fun y hy => .inl hy
        refine CW.mono (c_sameD duoE (inv.mWait x.2.1)) ?_
        rintro v6 H6 ⟨rfl, rfl⟩
        simp -implicitDefEqProofs only [g0, g3, g4, g5, hlt', hlt2, hi0, ld, st, a0, a1, a2, a3, b0, b1, b2, b3, c0, c1, c2, c3, n2, Bool.false_eq_true, hw, iv, q2, q3, ↓WP_seq, ↓WP_skip, ↓WP_region, ↓WP_dregion, ↓WP_cond, ↓WP_block, ↓WP_exit, ↓WP_ret, ↓OW_nil, ↓OW_cons, ↓DW_nil, ↓DW_cons, ↓XW_call, XW, exA, KO_eq, KD_eq, OptK_some, EvK_some, GW2_true, GW2_false, KS_normal, KS_ret, KS_exit, KB_normal, KB_ret, KB_exit, CP2_bool, RP_ret, RP_normal, putA_some, putA_none, ev_t, ev_c, evs, evo, wantA, initA, resA, Tr.get_set, vl, chkOk, cond_true, cond_false, Nat.add_zero, Nat.mul_one, Nat.one_mul, Nat.zero_add, Nat.zero_mul, aggOf, pInt, binA, unA, intA, beq_true, beq_false, Bool.not_true, Bool.not_false, Bool.not_eq_true, and_self, and_true, true_and, ↓reduceIte, reduceIte, Nat.reduceEqDiff, Nat.succ_ne_self, Nat.reduceAdd, Nat.reduceMul, Nat.reduceSub, Nat.reduceBEq, Nat.reduceLT, Nat.reduceLeDiff, Int.cast_ofNat_Int, Int.reduceToNat, Int.reduceLT, Int.reduceLE, Int.reduceGE, Int.reduceGT, Int.reduceEq, Int.reduceNe, Int.reduceAdd, Int.reduceSub, Int.reduceNeg, decide_true, decide_false, Int.toNat_natCast, reduceCtorEq, List.nil_append, List.cons_append, AV.boxy, AV.cells, List.length_cons, List.length_nil, Nat.beq_refl, AOp.cl, ↓OW_guard, ↓DW_guard, KDW_0, KDW_1, KDW_2, OWskip_eq, DWskip_eq, fillA, setAt, DChk, DAt, stepA, ble_dec, beq_dec, Bool.and_self, Bool.and_true, Bool.true_and, Bool.and_false, Bool.false_and, List.take_succ_cons, List.take_zero, List.drop_succ_cons, List.drop_zero, List.take_nil, List.drop_nil, List.append_nil, eqAV, eqAVL, BEq.rfl, eqA, eqD, sameS, Option.map, Option.isNone, addrA, wrap64, gt_iff_lt, ge_iff_le, Int.lt_irrefl, Int.le_refl]
        refine ⟨n - 1, by omega, i + 1, _, by omega, by omega, inv.mWait x.2.1, ⟨by have := ch2.1; omega, fun z hz => ?_⟩, rfl, duoE⟩
        have e : H6.get z = H.get z := by rw [k4 _ (.inl hz), k3 _ (.inl hz), ch2.keep hz (by simp)]
        exact ⟨.inl e, fun _ => e⟩
      have q3 : (x.1 == 3) = false := by simp [k3]
      by_cases k4 : x.1 = 4
      · have q4 : (x.1 == 4) = true := by simp [k4]
        simp -implicitDefEqProofs only [g0, g3, g4, g5, hlt', hlt2, hi0, ld, st, a0, a1, a2, a3, n2, Bool.false_eq_true, q2, q3, q4, ↓WP_seq, ↓WP_skip, ↓WP_region, ↓WP_dregion, ↓WP_cond, ↓WP_block, ↓WP_exit, ↓WP_ret, ↓OW_nil, ↓OW_cons, ↓DW_nil, ↓DW_cons, ↓XW_call, XW, exA, KO_eq, KD_eq, OptK_some, EvK_some, GW2_true, GW2_false, KS_normal, KS_ret, KS_exit, KB_normal, KB_ret, KB_exit, CP2_bool, RP_ret, RP_normal, putA_some, putA_none, ev_t, ev_c, evs, evo, wantA, initA, resA, Tr.get_set, vl, chkOk, cond_true, cond_false, Nat.add_zero, Nat.mul_one, Nat.one_mul, Nat.zero_add, Nat.zero_mul, aggOf, pInt, binA, unA, intA, beq_true, beq_false, Bool.not_true, Bool.not_false, Bool.not_eq_true, and_self, and_true, true_and, ↓reduceIte, reduceIte, Nat.reduceEqDiff, Nat.succ_ne_self, Nat.reduceAdd, Nat.reduceMul, Nat.reduceSub, Nat.reduceBEq, Nat.reduceLT, Nat.reduceLeDiff, Int.cast_ofNat_Int, Int.reduceToNat, Int.reduceLT, Int.reduceLE, Int.reduceGE, Int.reduceGT, Int.reduceEq, Int.reduceNe, Int.reduceAdd, Int.reduceSub, Int.reduceNeg, decide_true, decide_false, Int.toNat_natCast, reduceCtorEq, List.nil_append, List.cons_append, AV.boxy, AV.cells, List.length_cons, List.length_nil, Nat.beq_refl, AOp.cl, ↓OW_guard, ↓DW_guard, KDW_0, KDW_1, KDW_2, OWskip_eq, DWskip_eq, fillA, setAt, DChk, DAt, stepA, ble_dec, beq_dec, Bool.and_self, Bool.and_true, Bool.true_and, Bool.and_false, Bool.false_and, List.take_succ_cons, List.take_zero, List.drop_succ_cons, List.drop_zero, List.take_nil, List.drop_nil, List.append_nil, eqAV, eqAVL, BEq.rfl, eqA, eqD, sameS, Option.map, Option.isNone, addrA, wrap64, gt_iff_lt, ge_iff_le, Int.lt_irrefl, Int.le_refl]
        obtain ⟨f, D, f4, D4, hq, hD4, hw4, nq⟩ := duo2.both
        refine CW.mono (c_Post hq inv x.2.1) ?_
        rintro v3 H3 ⟨rfl, g3'⟩
        have hn3 := g3'.2.1
        obtain ⟨hw2, k3, nw⟩ := nq _ _ g3'
        obtain ⟨b0, b1, b2, b3⟩ := rr H3 hn3 (k3 _ (.inr rfl))
        simp -implicitDefEqProofs only [g0, g3, g4, g5, hlt', hlt2, hi0, ld, st, a0, a1, a2, a3, b0, b1, b2, b3, n2, Bool.false_eq_true, iv, q2, q3, q4, ↓WP_seq, ↓WP_skip, ↓WP_region, ↓WP_dregion, ↓WP_cond, ↓WP_block, ↓WP_exit, ↓WP_ret, ↓OW_nil, ↓OW_cons, ↓DW_nil, ↓DW_cons, ↓XW_call, XW, exA, KO_eq, KD_eq, OptK_some, EvK_some, GW2_true, GW2_false, KS_normal, KS_ret, KS_exit, KB_normal, KB_ret, KB_exit, CP2_bool, RP_ret, RP_normal, putA_some, putA_none, ev_t, ev_c, evs, evo, wantA, initA, resA, Tr.get_set, vl, chkOk, cond_true, cond_false, Nat.add_zero, Nat.mul_one, Nat.one_mul, Nat.zero_add, Nat.zero_mul, aggOf, pInt, binA, unA, intA, beq_true, beq_false, Bool.not_true, Bool.not_false, Bool.not_eq_true, and_self, and_true, true_and, ↓reduceIte, reduceIte, Nat.reduceEqDiff, Nat.succ_ne_self, Nat.reduceAdd, Nat.reduceMul, Nat.reduceSub, Nat.reduceBEq, Nat.reduceLT, Nat.reduceLeDiff, Int.cast_ofNat_Int, Int.reduceToNat, Int.reduceLT, Int.reduceLE, Int.reduceGE, Int.reduceGT, Int.reduceEq, Int.reduceNe, Int.reduceAdd, Int.reduceSub, Int.reduceNeg, decide_true, decide_false, Int.toNat_natCast, reduceCtorEq, List.nil_append, List.cons_append, AV.boxy, AV.cells, List.length_cons, List.length_nil, Nat.beq_refl, AOp.cl, ↓OW_guard, ↓DW_guard, KDW_0, KDW_1, KDW_2, OWskip_eq, DWskip_eq, fillA, setAt, DChk, DAt, stepA, ble_dec, beq_dec, Bool.and_self, Bool.and_true, Bool.true_and, Bool.and_false, Bool.false_and, List.take_succ_cons, List.take_zero, List.drop_succ_cons, List.drop_zero, List.take_nil, List.drop_nil, List.append_nil, eqAV, eqAVL, BEq.rfl, eqA, eqD, sameS, Option.map, Option.isNone, addrA, wrap64, gt_iff_lt, ge_iff_le, Int.lt_irrefl, Int.le_refl]
        refine CW.mono (c_rPost hw2 inv x.2.1) ?_
        rintro v4 H4 ⟨rfl, g4'⟩
        have hn4 := g4'.2.1
        obtain ⟨duo4, k4⟩ := nw _ _ g4'
        obtain ⟨c0, c1, c2, c3⟩ := rr H4 (by omega) (by rw [k4 _ (.inr rfl), k3 _ (.inr rfl)])
        simp -implicitDefEqProofs only [g0, g3, g4, g5, hlt', hlt2, hi0, ld, st, a0, a1, a2, a3, b0, b1, b2, b3, c0, c1, c2, c3, n2, Bool.false_eq_true, iv, q2, q3, q4, ↓WP_seq, ↓WP_skip, ↓WP_region, ↓WP_dregion, ↓WP_cond, ↓WP_block, ↓WP_exit, ↓WP_ret, ↓OW_nil, ↓OW_cons, ↓DW_nil, ↓DW_cons, ↓XW_call, XW, exA, KO_eq, KD_eq, OptK_some, EvK_some, GW2_true, GW2_false, KS_normal, KS_ret, KS_exit, KB_normal, KB_ret, KB_exit, CP2_bool, RP_ret, RP_normal, putA_some, putA_none, ev_t, ev_c, evs, evo, wantA, initA, resA, Tr.get_set, vl, chkOk, cond_true, cond_false, Nat.add_zero, Nat.mul_one, Nat.one_mul, Nat.zero_add, Nat.zero_mul, aggOf, pInt, binA, unA, intA, beq_true, beq_false, Bool.not_true, Bool.not_false, Bool.not_eq_true, and_self, and_true, true_and, ↓reduceIte, reduceIte, Nat.reduceEqDiff, Nat.succ_ne_self, Nat.reduceAdd, Nat.reduceMul, Nat.reduceSub, Nat.reduceBEq, Nat.reduceLT, Nat.reduceLeDiff, Int.cast_ofNat_Int, Int.reduceToNat, Int.reduceLT, Int.reduceLE, Int.reduceGE, Int.reduceGT, Int.reduceEq, Int.reduceNe, Int.reduceAdd, Int.reduceSub, Int.reduceNeg, decide_true, decide_false, Int.toNat_natCast, reduceCtorEq, List.nil_append, List.cons_append, AV.boxy, AV.cells, List.length_cons, List.length_nil, Nat.beq_refl, AOp.cl, ↓OW_guard, ↓DW_guard, KDW_0, KDW_1, KDW_2, OWskip_eq, DWskip_eq, fillA, setAt, DChk, DAt, stepA, ble_dec, beq_dec, Bool.and_self, Bool.and_true, Bool.true_and, Bool.and_false, Bool.false_and, List.take_succ_cons, List.take_zero, List.drop_succ_cons, List.drop_zero, List.take_nil, List.drop_nil, List.append_nil, eqAV, eqAVL, BEq.rfl, eqA, eqD, sameS, Option.map, Option.isNone, addrA, wrap64, gt_iff_lt, ge_iff_le, Int.lt_irrefl, Int.le_refl]
        have duoE := duo4.sub (K' := fun y => y < H.next) fun y hy => .inl hy
        refine CW.mono (c_sameD duoE (inv.mPost x.2.1)) ?_
        rintro v6 H6 ⟨rfl, rfl⟩
        simp -implicitDefEqProofs only [g0, g3, g4, g5, hlt', hlt2, hi0, ld, st, a0, a1, a2, a3, b0, b1, b2, b3, c0, c1, c2, c3, n2, Bool.false_eq_true, hw, iv, q2, q3, q4, ↓WP_seq, ↓WP_skip, ↓WP_region, ↓WP_dregion, ↓WP_cond, ↓WP_block, ↓WP_exit, ↓WP_ret, ↓OW_nil, ↓OW_cons, ↓DW_nil, ↓DW_cons, ↓XW_call, XW, exA, KO_eq, KD_eq, OptK_some, EvK_some, GW2_true, GW2_false, KS_normal, KS_ret, KS_exit, KB_normal, KB_ret, KB_exit, CP2_bool, RP_ret, RP_normal, putA_some, putA_none, ev_t, ev_c, evs, evo, wantA, initA, resA, Tr.get_set, vl, chkOk, cond_true, cond_false, Nat.add_zero, Nat.mul_one, Nat.one_mul, Nat.zero_add, Nat.zero_mul, aggOf, pInt, binA, unA, intA, beq_true, beq_false, Bool.not_true, Bool.not_false, Bool.not_eq_true, and_self, and_true, true_and, ↓reduceIte, reduceIte, Nat.reduceEqDiff, Nat.succ_ne_self, Nat.reduceAdd, Nat.reduceMul, Nat.reduceSub, Nat.reduceBEq, Nat.reduceLT, Nat.reduceLeDiff, Int.cast_ofNat_Int, Int.reduceToNat, Int.reduceLT, Int.reduceLE, Int.reduceGE, Int.reduceGT, Int.reduceEq, Int.reduceNe, Int.reduceAdd, Int.reduceSub, Int.reduceNeg, decide_true, decide_false, Int.toNat_natCast, reduceCtorEq, List.nil_append, List.cons_append, AV.boxy, AV.cells, List.length_cons, List.length_nil, Nat.beq_refl, AOp.cl, ↓OW_guard, ↓DW_guard, KDW_0, KDW_1, KDW_2, OWskip_eq, DWskip_eq, fillA, setAt, DChk, DAt, stepA, ble_dec, beq_dec, Bool.and_self, Bool.and_true, Bool.true_and, Bool.and_false, Bool.false_and, List.take_succ_cons, List.take_zero, List.drop_succ_cons, List.drop_zero, List.take_nil, List.drop_nil, List.append_nil, eqAV, eqAVL, BEq.rfl, eqA, eqD, sameS, Option.map, Option.isNone, addrA, wrap64, gt_iff_lt, ge_iff_le, Int.lt_irrefl, Int.le_refl]
        refine ⟨n - 1, by omega, i + 1, _, by omega, by omega, inv.mPost x.2.1, ⟨by have := ch2.1; omega, fun z hz => ?_⟩, rfl, duoE⟩
        have e : H6.get z = H.get z := by rw [k4 _ (.inl hz), k3 _ (.inl hz), ch2.keep hz (by simp)]
        exact ⟨.inl e, fun _ => e⟩
      have q4 : (x.1 == 4) = false := by simp [k4]
      by_cases k5 : x.1 = 5
      · have q5 : (x.1 == 5) = true := by simp [k5]
        simp -implicitDefEqProofs only [g0, g3, g4, g5, hlt', hlt2, hi0, ld, st, a0, a1, a2, a3, n2, Bool.false_eq_true, q2, q3, q4, q5, ↓WP_seq, ↓WP_skip, ↓WP_region, ↓WP_dregion, ↓WP_cond, ↓WP_block, ↓WP_exit, ↓WP_ret, ↓OW_nil, ↓OW_cons, ↓DW_nil, ↓DW_cons, ↓XW_call, XW, exA, KO_eq, KD_eq, OptK_some, EvK_some, GW2_true, GW2_false, KS_normal, KS_ret, KS_exit, KB_normal, KB_ret, KB_exit, CP2_bool, RP_ret, RP_normal, putA_some, putA_none, ev_t, ev_c, evs, evo, wantA, initA, resA, Tr.get_set, vl, chkOk, cond_true, cond_false, Nat.add_zero, Nat.mul_one, Nat.one_mul, Nat.zero_add, Nat.zero_mul, aggOf, pInt, binA, unA, intA, beq_true, beq_false, Bool.not_true, Bool.not_false, Bool.not_eq_true, and_self, and_true, true_and, ↓reduceIte, reduceIte, Nat.reduceEqDiff, Nat.succ_ne_self, Nat.reduceAdd, Nat.reduceMul, Nat.reduceSub, Nat.reduceBEq, Nat.reduceLT, Nat.reduceLeDiff, Int.cast_ofNat_Int, Int.reduceToNat, Int.reduceLT, Int.reduceLE, Int.reduceGE, Int.reduceGT, Int.reduceEq, Int.reduceNe, Int.reduceAdd, Int.reduceSub, Int.reduceNeg, decide_true, decide_false, Int.toNat_natCast, reduceCtorEq, List.nil_append, List.cons_append, AV.boxy, AV.cells, List.length_cons, List.length_nil, Nat.beq_refl, AOp.cl, ↓OW_guard, ↓DW_guard, KDW_0, KDW_1, KDW_2, OWskip_eq, DWskip_eq, fillA, setAt, DChk, DAt, stepA, ble_dec, beq_dec, Bool.and_self, Bool.and_true, Bool.true_and, Bool.and_false, Bool.false_and, List.take_succ_cons, List.take_zero, List.drop_succ_cons, List.drop_zero, List.take_nil, List.drop_nil, List.append_nil, eqAV, eqAVL, BEq.rfl, eqA, eqD, sameS, Option.map, Option.isNone, addrA, wrap64, gt_iff_lt, ge_iff_le, Int.lt_irrefl, Int.le_refl]
        obtain ⟨f, D, f4, D4, hq, hD4, hw4, nq⟩ := duo2.both
        refine CW.mono (c_Sleep hq inv x.2.2.2) ?_
        rintro v3 H3 ⟨rfl, g3'⟩
        have hn3 := g3'.2.1
        obtain ⟨hw2, k3, nw⟩ := nq _ _ g3'
        obtain ⟨b0, b1, b2, b3⟩ := rr H3 hn3 (k3 _ (.inr rfl))
        simp -implicitDefEqProofs only [g0, g3, g4, g5, hlt', hlt2, hi0, ld, st, a0, a1, a2, a3, b0, b1, b2, b3, n2, Bool.false_eq_true, iv, q2, q3, q4, q5, ↓WP_seq, ↓WP_skip, ↓WP_region, ↓WP_dregion, ↓WP_cond, ↓WP_block, ↓WP_exit, ↓WP_ret, ↓OW_nil, ↓OW_cons, ↓DW_nil, ↓DW_cons, ↓XW_call, XW, exA, KO_eq, KD_eq, OptK_some, EvK_some, GW2_true, GW2_false, KS_normal, KS_ret, KS_exit, KB_normal, KB_ret, KB_exit, CP2_bool, RP_ret, RP_normal, putA_some, putA_none, ev_t, ev_c, evs, evo, wantA, initA, resA, Tr.get_set, vl, chkOk, cond_true, cond_false, Nat.add_zero, Nat.mul_one, Nat.one_mul, Nat.zero_add, Nat.zero_mul, aggOf, pInt, binA, unA, intA, beq_true, beq_false, Bool.not_true, Bool.not_false, Bool.not_eq_true, and_self, and_true, true_and, ↓reduceIte, reduceIte, Nat.reduceEqDiff, Nat.succ_ne_self, Nat.reduceAdd, Nat.reduceMul, Nat.reduceSub, Nat.reduceBEq, Nat.reduceLT, Nat.reduceLeDiff, Int.cast_ofNat_Int, Int.reduceToNat, Int.reduceLT, Int.reduceLE, Int.reduceGE, Int.reduceGT, Int.reduceEq, Int.reduceNe, Int.reduceAdd, Int.reduceSub, Int.reduceNeg, decide_true, decide_false, Int.toNat_natCast, reduceCtorEq, List.nil_append, List.cons_append, AV.boxy, AV.cells, List.length_cons, List.length_nil, Nat.beq_refl, AOp.cl, ↓OW_guard, ↓DW_guard, KDW_0, KDW_1, KDW_2, OWskip_eq, DWskip_eq, fillA, setAt, DChk, DAt, stepA, ble_dec, beq_dec, Bool.and_self, Bool.and_true, Bool.true_and, Bool.and_false, Bool.false_and, List.take_succ_cons, List.take_zero, List.drop_succ_cons, List.drop_zero, List.take_nil, List.drop_nil, List.append_nil, eqAV, eqAVL, BEq.rfl, eqA, eqD, sameS, Option.map, Option.isNone, addrA, wrap64, gt_iff_lt, ge_iff_le, Int.lt_irrefl, Int.le_refl]
        refine CW.mono (c_rSleep hw2 inv x.2.2.2) ?_
        rintro v4 H4 ⟨rfl, g4'⟩
        have hn4 := g4'.2.1
        obtain ⟨duo4, k4⟩ := nw _ _ g4'
        obtain ⟨c0, c1, c2, c3⟩ := rr H4 (by omega) (by rw [k4 _ (.inr rfl), k3 _ (.inr rfl)])
        simp -implicitDefEqProofs only [g0, g3, g4, g5, hlt', hlt2, hi0, ld, st, a0, a1, a2, a3, b0, b1, b2, b3, c0, c1, c2, c3, n2, Bool.false_eq_true, iv, q2, q3, q4, q5, ↓WP_seq, ↓WP_skip, ↓WP_region, ↓WP_dregion, ↓WP_cond, ↓WP_block, ↓WP_exit, ↓WP_ret, ↓OW_nil, ↓OW_cons, ↓DW_nil, ↓DW_cons, ↓XW_call, XW, exA, KO_eq, KD_eq, OptK_some, EvK_some, GW2_true, GW2_false, KS_normal, KS_ret, KS_exit, KB_normal, KB_ret, KB_exit, CP2_bool, RP_ret, RP_normal, putA_some, putA_none, ev_t, ev_c, evs, evo, wantA, initA, resA, Tr.get_set, vl, chkOk, cond_true, cond_false, Nat.add_zero, Nat.mul_one, Nat.one_mul, Nat.zero_add, Nat.zero_mul, aggOf, pInt, binA, unA, intA, beq_true, beq_false, Bool.not_true, Bool.not_false, Bool.not_eq_true, and_self, and_true, true_and, ↓reduceIte, reduceIte, Nat.reduceEqDiff, Nat.succ_ne_self, Nat.reduceAdd, Nat.reduceMul, Nat.reduceSub, Nat.reduceBEq, Nat.reduceLT, Nat.reduceLeDiff, Int.cast_ofNat_Int, Int.reduceToNat, Int.reduceLT, Int.reduceLE, Int.reduceGE, Int.reduceGT, Int.reduceEq, Int.reduceNe, Int.reduceAdd, Int.reduceSub, Int.reduceNeg, decide_true, decide_false, Int.toNat_natCast, reduceCtorEq, List.nil_append, List.cons_append, AV.boxy, AV.cells, List.length_cons, List.length_nil, Nat.beq_refl, AOp.cl, ↓OW_guard, ↓DW_guard, KDW_0, KDW_1, KDW_2, OWskip_eq, DWskip_eq, fillA, setAt, DChk, DAt, stepA, ble_dec, beq_dec, Bool.and_self, Bool.and_true, Bool.true_and, Bool.and_false, Bool.false_and, List.take_succ_cons, List.take_zero, List.drop_succ_cons, List.drop_zero, List.take_nil, List.drop_nil, List.append_nil, eqAV, eqAVL, BEq.rfl, eqA, eqD, sameS, Option.map, Option.isNone, addrA, wrap64, gt_iff_lt, ge_iff_le, Int.lt_irrefl, Int.le_refl]
        have duoE := duo4.sub (K' := fun y => y < H.next) fun y hy => .inl hy
        refine CW.mono (c_sameD duoE (inv.mSleep x.2.2.2)) ?_
        rintro v6 H6 ⟨rfl, rfl⟩
        simp -implicitDefEqProofs only [g0, g3, g4, g5, hlt', hlt2, hi0, ld, st, a0, a1, a2, a3, b0, b1, b2, b3, c0, c1, c2, c3, n2, Bool.false_eq_true, hw, iv, q2, q3, q4, q5, ↓WP_seq, ↓WP_skip, ↓WP_region, ↓WP_dregion, ↓WP_cond, ↓WP_block, ↓WP_exit, ↓WP_ret, ↓OW_nil, ↓OW_cons, ↓DW_nil, ↓DW_cons, ↓XW_call, XW, exA, KO_eq, KD_eq, OptK_some, EvK_some, GW2_true, GW2_false, KS_normal, KS_ret, KS_exit, KB_normal, KB_ret, KB_exit, CP2_bool, RP_ret, RP_normal, putA_some, putA_none, ev_t, ev_c, evs, evo, wantA, initA, resA, Tr.get_set, vl, chkOk, cond_true, cond_false, Nat.add_zero, Nat.mul_one, Nat.one_mul, Nat.zero_add, Nat.zero_mul, aggOf, pInt, binA, unA, intA, beq_true, beq_false, Bool.not_true, Bool.not_false, Bool.not_eq_true, and_self, and_true, true_and, ↓reduceIte, reduceIte, Nat.reduceEqDiff, Nat.succ_ne_self, Nat.reduceAdd, Nat.reduceMul, Nat.reduceSub, Nat.reduceBEq, Nat.reduceLT, Nat.reduceLeDiff, Int.cast_ofNat_Int, Int.reduceToNat, Int.reduceLT, Int.reduceLE, Int.reduceGE, Int.reduceGT, Int.reduceEq, Int.reduceNe, Int.reduceAdd, Int.reduceSub, Int.reduceNeg, decide_true, decide_false, Int.toNat_natCast, reduceCtorEq, List.nil_append, List.cons_append, AV.boxy, AV.cells, List.length_cons, List.length_nil, Nat.beq_refl, AOp.cl, ↓OW_guard, ↓DW_guard, KDW_0, KDW_1, KDW_2, OWskip_eq, DWskip_eq, fillA, setAt, DChk, DAt, stepA, ble_dec, beq_dec, Bool.and_self, Bool.and_true, Bool.true_and, Bool.and_false, Bool.false_and, List.take_succ_cons, List.take_zero, List.drop_succ_cons, List.drop_zero, List.take_nil, List.drop_nil, List.append_nil, eqAV, eqAVL, BEq.rfl, eqA, eqD, sameS, Option.map, Option.isNone, addrA, wrap64, gt_iff_lt, ge_iff_le, Int.lt_irrefl, Int.le_refl]
        refine ⟨n - 1, by omega, i + 1, _, by omega, by omega, inv.mSleep x.2.2.2, ⟨by have := ch2.1; omega, fun z hz => ?_⟩, rfl, duoE⟩
        have e : H6.get z = H.get z := by rw [k4 _ (.inl hz), k3 _ (.inl hz), ch2.keep hz (by simp)]
        exact ⟨.inl e, fun _ => e⟩
      have q5 : (x.1 == 5) = false := by simp [k5]
      by_cases k6 : x.1 = 6
      · have q6 : (x.1 == 6) = true := by simp [k6]
        simp -implicitDefEqProofs only [g0, g3, g4, g5, hlt', hlt2, hi0, ld, st, a0, a1, a2, a3, n2, Bool.false_eq_true, q2, q3, q4, q5, q6, ↓WP_seq, ↓WP_skip, ↓WP_region, ↓WP_dregion, ↓WP_cond, ↓WP_block, ↓WP_exit, ↓WP_ret, ↓OW_nil, ↓OW_cons, ↓DW_nil, ↓DW_cons, ↓XW_call, XW, exA, KO_eq, KD_eq, OptK_some, EvK_some, GW2_true, GW2_false, KS_normal, KS_ret, KS_exit, KB_normal, KB_ret, KB_exit, CP2_bool, RP_ret, RP_normal, putA_some, putA_none, ev_t, ev_c, evs, evo, wantA, initA, resA, Tr.get_set, vl, chkOk, cond_true, cond_false, Nat.add_zero, Nat.mul_one, Nat.one_mul, Nat.zero_add, Nat.zero_mul, aggOf, pInt, binA, unA, intA, beq_true, beq_false, Bool.not_true, Bool.not_false, Bool.not_eq_true, and_self, and_true, true_and, ↓reduceIte, reduceIte, Nat.reduceEqDiff, Nat.succ_ne_self, Nat.reduceAdd, Nat.reduceMul, Nat.reduceSub, Nat.reduceBEq, Nat.reduceLT, Nat.reduceLeDiff, Int.cast_ofNat_Int, Int.reduceToNat, Int.reduceLT, Int.reduceLE, Int.reduceGE, Int.reduceGT, Int.reduceEq, Int.reduceNe, Int.reduceAdd, Int.reduceSub, Int.reduceNeg, decide_true, decide_false, Int.toNat_natCast, reduceCtorEq, List.nil_append, List.cons_append, AV.boxy, AV.cells, List.length_cons, List.length_nil, Nat.beq_refl, AOp.cl, ↓OW_guard, ↓DW_guard, KDW_0, KDW_1, KDW_2, OWskip_eq, DWskip_eq, fillA, setAt, DChk, DAt, stepA, ble_dec, beq_dec, Bool.and_self, Bool.and_true, Bool.true_and, Bool.and_false, Bool.false_and, List.take_succ_cons, List.take_zero, List.drop_succ_cons, List.drop_zero, List.take_nil, List.drop_nil, List.append_nil, eqAV, eqAVL, BEq.rfl, eqA, eqD, sameS, Option.map, Option.isNone, addrA, wrap64, gt_iff_lt, ge_iff_le, Int.lt_irrefl, Int.le_refl]
        obtain ⟨f, D, f4, D4, hq, hD4, hw4, nq⟩ := duo2.both
        refine CW.mono (c_Wake hq inv x.2.2.2) ?_
        rintro v3 H3 ⟨⟨P3, pf3, sl3⟩, g3'⟩
        have hn3 := g3'.2.1
        obtain ⟨hw2, k3, nw⟩ := nq _ _ g3'
        obtain ⟨b0, b1, b2, b3⟩ := rr H3 hn3 (k3 _ (.inr rfl))
        simp -implicitDefEqProofs only [g0, g3, g4, g5, hlt', hlt2, hi0, ld, st, a0, a1, a2, a3, b0, b1, b2, b3, n2, Bool.false_eq_true, iv, q2, q3, q4, q5, q6, ↓WP_seq, ↓WP_skip, ↓WP_region, ↓WP_dregion, ↓WP_cond, ↓WP_block, ↓WP_exit, ↓WP_ret, ↓OW_nil, ↓OW_cons, ↓DW_nil, ↓DW_cons, ↓XW_call, XW, exA, KO_eq, KD_eq, OptK_some, EvK_some, GW2_true, GW2_false, KS_normal, KS_ret, KS_exit, KB_normal, KB_ret, KB_exit, CP2_bool, RP_ret, RP_normal, putA_some, putA_none, ev_t, ev_c, evs, evo, wantA, initA, resA, Tr.get_set, vl, chkOk, cond_true, cond_false, Nat.add_zero, Nat.mul_one, Nat.one_mul, Nat.zero_add, Nat.zero_mul, aggOf, pInt, binA, unA, intA, beq_true, beq_false, Bool.not_true, Bool.not_false, Bool.not_eq_true, and_self, and_true, true_and, ↓reduceIte, reduceIte, Nat.reduceEqDiff, Nat.succ_ne_self, Nat.reduceAdd, Nat.reduceMul, Nat.reduceSub, Nat.reduceBEq, Nat.reduceLT, Nat.reduceLeDiff, Int.cast_ofNat_Int, Int.reduceToNat, Int.reduceLT, Int.reduceLE, Int.reduceGE, Int.reduceGT, Int.reduceEq, Int.reduceNe, Int.reduceAdd, Int.reduceSub, Int.reduceNeg, decide_true, decide_false, Int.toNat_natCast, reduceCtorEq, List.nil_append, List.cons_append, AV.boxy, AV.cells, List.length_cons, List.length_nil, Nat.beq_refl, AOp.cl, ↓OW_guard, ↓DW_guard, KDW_0, KDW_1, KDW_2, OWskip_eq, DWskip_eq, fillA, setAt, DChk, DAt, stepA, ble_dec, beq_dec, Bool.and_self, Bool.and_true, Bool.true_and, Bool.and_false, Bool.false_and, List.take_succ_cons, List.take_zero, List.drop_succ_cons, List.drop_zero, List.take_nil, List.drop_nil, List.append_nil, eqAV, eqAVL, BEq.rfl, eqA, eqD, sameS, Option.map, Option.isNone, addrA, wrap64, gt_iff_lt, ge_iff_le, Int.lt_irrefl, Int.le_refl]
        refine CW.mono (c_rWake hw2 inv x.2.2.2) ?_
        rintro v4 H4 ⟨⟨P4, pf4, sl4⟩, g4'⟩
        have hn4 := g4'.2.1
        obtain ⟨duo4, k4⟩ := nw _ _ g4'
        obtain ⟨c0, c1, c2, c3⟩ := rr H4 (by omega) (by rw [k4 _ (.inr rfl), k3 _ (.inr rfl)])
        simp -implicitDefEqProofs only [g0, g3, g4, g5, hlt', hlt2, hi0, ld, st, a0, a1, a2, a3, b0, b1, b2, b3, c0, c1, c2, c3, n2, Bool.false_eq_true, iv, q2, q3, q4, q5, q6, ↓WP_seq, ↓WP_skip, ↓WP_region, ↓WP_dregion, ↓WP_cond, ↓WP_block, ↓WP_exit, ↓WP_ret, ↓OW_nil, ↓OW_cons, ↓DW_nil, ↓DW_cons, ↓XW_call, XW, exA, KO_eq, KD_eq, OptK_some, EvK_some, GW2_true, GW2_false, KS_normal, KS_ret, KS_exit, KB_normal, KB_ret, KB_exit, CP2_bool, RP_ret, RP_normal, putA_some, putA_none, ev_t, ev_c, evs, evo, wantA, initA, resA, Tr.get_set, vl, chkOk, cond_true, cond_false, Nat.add_zero, Nat.mul_one, Nat.one_mul, Nat.zero_add, Nat.zero_mul, aggOf, pInt, binA, unA, intA, beq_true, beq_false, Bool.not_true, Bool.not_false, Bool.not_eq_true, and_self, and_true, true_and, ↓reduceIte, reduceIte, Nat.reduceEqDiff, Nat.succ_ne_self, Nat.reduceAdd, Nat.reduceMul, Nat.reduceSub, Nat.reduceBEq, Nat.reduceLT, Nat.reduceLeDiff, Int.cast_ofNat_Int, Int.reduceToNat, Int.reduceLT, Int.reduceLE, Int.reduceGE, Int.reduceGT, Int.reduceEq, Int.reduceNe, Int.reduceAdd, Int.reduceSub, Int.reduceNeg, decide_true, decide_false, Int.toNat_natCast, reduceCtorEq, List.nil_append, List.cons_append, AV.boxy, AV.cells, List.length_cons, List.length_nil, Nat.beq_refl, AOp.cl, ↓OW_guard, ↓DW_guard, KDW_0, KDW_1, KDW_2, OWskip_eq, DWskip_eq, fillA, setAt, DChk, DAt, stepA, ble_dec, beq_dec, Bool.and_self, Bool.and_true, Bool.true_and, Bool.and_false, Bool.false_and, List.take_succ_cons, List.take_zero, List.drop_succ_cons, List.drop_zero, List.take_nil, List.drop_nil, List.append_nil, eqAV, eqAVL, BEq.rfl, eqA, eqD, sameS, Option.map, Option.isNone, addrA, wrap64, gt_iff_lt, ge_iff_le, Int.lt_irrefl, Int.le_refl]
        have sl3' : Sl H4 P3 1 v3 (vWake s x.2.2.2).length (nats (vWake s x.2.2.2)) := Sl.keep sl3 hn4 fun y hy hl => g4'.2.2 y hl (fun e => by have := pf3 y hy; omega) fun e => by have := hD4 y e; have := pf3 y hy; omega
        refine CW.mono (c_Same sl3' sl4 ?_) ?_
        · have h1 := inv.lens
          have h2 : (vWake s x.2.2.2).length ≤ s.s.length := by simp only [vWake, wkd, List.length_map, isort_len]; exact List.length_filter_le ..
          omega
        rintro v5 H5 ⟨rfl, rfl⟩
        simp -implicitDefEqProofs only [g0, g3, g4, g5, hlt', hlt2, hi0, ld, st, a0, a1, a2, a3, b0, b1, b2, b3, c0, c1, c2, c3, n2, Bool.false_eq_true, iv, q2, q3, q4, q5, q6, ↓WP_seq, ↓WP_skip, ↓WP_region, ↓WP_dregion, ↓WP_cond, ↓WP_block, ↓WP_exit, ↓WP_ret, ↓OW_nil, ↓OW_cons, ↓DW_nil, ↓DW_cons, ↓XW_call, XW, exA, KO_eq, KD_eq, OptK_some, EvK_some, GW2_true, GW2_false, KS_normal, KS_ret, KS_exit, KB_normal, KB_ret, KB_exit, CP2_bool, RP_ret, RP_normal, putA_some, putA_none, ev_t, ev_c, evs, evo, wantA, initA, resA, Tr.get_set, vl, chkOk, cond_true, cond_false, Nat.add_zero, Nat.mul_one, Nat.one_mul, Nat.zero_add, Nat.zero_mul, aggOf, pInt, binA, unA, intA, beq_true, beq_false, Bool.not_true, Bool.not_false, Bool.not_eq_true, and_self, and_true, true_and, ↓reduceIte, reduceIte, Nat.reduceEqDiff, Nat.succ_ne_self, Nat.reduceAdd, Nat.reduceMul, Nat.reduceSub, Nat.reduceBEq, Nat.reduceLT, Nat.reduceLeDiff, Int.cast_ofNat_Int, Int.reduceToNat, Int.reduceLT, Int.reduceLE, Int.reduceGE, Int.reduceGT, Int.reduceEq, Int.reduceNe, Int.reduceAdd, Int.reduceSub, Int.reduceNeg, decide_true, decide_false, Int.toNat_natCast, reduceCtorEq, List.nil_append, List.cons_append, AV.boxy, AV.cells, List.length_cons, List.length_nil, Nat.beq_refl, AOp.cl, ↓OW_guard, ↓DW_guard, KDW_0, KDW_1, KDW_2, OWskip_eq, DWskip_eq, fillA, setAt, DChk, DAt, stepA, ble_dec, beq_dec, Bool.and_self, Bool.and_true, Bool.true_and, Bool.and_false, Bool.false_and, List.take_succ_cons, List.take_zero, List.drop_succ_cons, List.drop_zero, List.take_nil, List.drop_nil, List.append_nil, eqAV, eqAVL, BEq.rfl, eqA, eqD, sameS, Option.map, Option.isNone, addrA, wrap64, gt_iff_lt, ge_iff_le, Int.lt_irrefl, Int.le_refl]
        have duoE := duo4.sub (K' := fun y => y < H.next) fun y hy => .inl hy
        refine CW.mono (c_sameD duoE (inv.mWake x.2.2.2)) ?_
        rintro v6 H6 ⟨rfl, rfl⟩
        simp -implicitDefEqProofs only [g0, g3, g4, g5, hlt', hlt2, hi0, ld, st, a0, a1, a2, a3, b0, b1, b2, b3, c0, c1, c2, c3, n2, Bool.false_eq_true, hw, iv, q2, q3, q4, q5, q6, ↓WP_seq, ↓WP_skip, ↓WP_region, ↓WP_dregion, ↓WP_cond, ↓WP_block, ↓WP_exit, ↓WP_ret, ↓OW_nil, ↓OW_cons, ↓DW_nil, ↓DW_cons, ↓XW_call, XW, exA, KO_eq, KD_eq, OptK_some, EvK_some, GW2_true, GW2_false, KS_normal, KS_ret, KS_exit, KB_normal, KB_ret, KB_exit, CP2_bool, RP_ret, RP_normal, putA_some, putA_none, ev_t, ev_c, evs, evo, wantA, initA, resA, Tr.get_set, vl, chkOk, cond_true, cond_false, Nat.add_zero, Nat.mul_one, Nat.one_mul, Nat.zero_add, Nat.zero_mul, aggOf, pInt, binA, unA, intA, beq_true, beq_false, Bool.not_true, Bool.not_false, Bool.not_eq_true, and_self, and_true, true_and, ↓reduceIte, reduceIte, Nat.reduceEqDiff, Nat.succ_ne_self, Nat.reduceAdd, Nat.reduceMul, Nat.reduceSub, Nat.reduceBEq, Nat.reduceLT, Nat.reduceLeDiff, Int.cast_ofNat_Int, Int.reduceToNat, Int.reduceLT, Int.reduceLE, Int.reduceGE, Int.reduceGT, Int.reduceEq, Int.reduceNe, Int.reduceAdd, Int.reduceSub, Int.reduceNeg, decide_true, decide_false, Int.toNat_natCast, reduceCtorEq, List.nil_append, List.cons_append, AV.boxy, AV.cells, List.length_cons, List.length_nil, Nat.beq_refl, AOp.cl, ↓OW_guard, ↓DW_guard, KDW_0, KDW_1, KDW_2, OWskip_eq, DWskip_eq, fillA, setAt, DChk, DAt, stepA, ble_dec, beq_dec, Bool.and_self, Bool.and_true, Bool.true_and, Bool.and_false, Bool.false_and, List.take_succ_cons, List.take_zero, List.drop_succ_cons, List.drop_zero, List.take_nil, List.drop_nil, List.append_nil, eqAV, eqAVL, BEq.rfl, eqA, eqD, sameS, Option.map, Option.isNone, addrA, wrap64, gt_iff_lt, ge_iff_le, Int.lt_irrefl, Int.le_refl]
        refine ⟨n - 1, by omega, i + 1, _, by omega, by omega, inv.mWake x.2.2.2, ⟨by have := ch2.1; omega, fun z hz => ?_⟩, rfl, duoE⟩
        have e : H6.get z = H.get z := by rw [k4 _ (.inl hz), k3 _ (.inl hz), ch2.keep hz (by simp)]
        exact ⟨.inl e, fun _ => e⟩
      have q6 : (x.1 == 6) = false := by simp [k6]
      by_cases k7 : x.1 = 7
      · have q7 : (x.1 == 7) = true := by simp [k7]
        simp -implicitDefEqProofs only [g0, g3, g4, g5, hlt', hlt2, hi0, ld, st, a0, a1, a2, a3, n2, Bool.false_eq_true, q2, q3, q4, q5, q6, q7, ↓WP_seq, ↓WP_skip, ↓WP_region, ↓WP_dregion, ↓WP_cond, ↓WP_block, ↓WP_exit, ↓WP_ret, ↓OW_nil, ↓OW_cons, ↓DW_nil, ↓DW_cons, ↓XW_call, XW, exA, KO_eq, KD_eq, OptK_some, EvK_some, GW2_true, GW2_false, KS_normal, KS_ret, KS_exit, KB_normal, KB_ret, KB_exit, CP2_bool, RP_ret, RP_normal, putA_some, putA_none, ev_t, ev_c, evs, evo, wantA, initA, resA, Tr.get_set, vl, chkOk, cond_true, cond_false, Nat.add_zero, Nat.mul_one, Nat.one_mul, Nat.zero_add, Nat.zero_mul, aggOf, pInt, binA, unA, intA, beq_true, beq_false, Bool.not_true, Bool.not_false, Bool.not_eq_true, and_self, and_true, true_and, ↓reduceIte, reduceIte, Nat.reduceEqDiff, Nat.succ_ne_self, Nat.reduceAdd, Nat.reduceMul, Nat.reduceSub, Nat.reduceBEq, Nat.reduceLT, Nat.reduceLeDiff, Int.cast_ofNat_Int, Int.reduceToNat, Int.reduceLT, Int.reduceLE, Int.reduceGE, Int.reduceGT, Int.reduceEq, Int.reduceNe, Int.reduceAdd, Int.reduceSub, Int.reduceNeg, decide_true, decide_false, Int.toNat_natCast, reduceCtorEq, List.nil_append, List.cons_append, AV.boxy, AV.cells, List.length_cons, List.length_nil, Nat.beq_refl, AOp.cl, ↓OW_guard, ↓DW_guard, KDW_0, KDW_1, KDW_2, OWskip_eq, DWskip_eq, fillA, setAt, DChk, DAt, stepA, ble_dec, beq_dec, Bool.and_self, Bool.and_true, Bool.true_and, Bool.and_false, Bool.false_and, List.take_succ_cons, List.take_zero, List.drop_succ_cons, List.drop_zero, List.take_nil, List.drop_nil, List.append_nil, eqAV, eqAVL, BEq.rfl, eqA, eqD, sameS, Option.map, Option.isNone, addrA, wrap64, gt_iff_lt, ge_iff_le, Int.lt_irrefl, Int.le_refl]
        obtain ⟨f, D, f4, D4, hq, hD4, hw4, nq⟩ := duo2.both
        refine CW.mono (c_End hq inv) ?_
        rintro v3 H3 ⟨rfl, g3'⟩
        have hn3 := g3'.2.1
        obtain ⟨hw2, k3, nw⟩ := nq _ _ g3'
        obtain ⟨b0, b1, b2, b3⟩ := rr H3 hn3 (k3 _ (.inr rfl))
        simp -implicitDefEqProofs only [g0, g3, g4, g5, hlt', hlt2, hi0, ld, st, a0, a1, a2, a3, b0, b1, b2, b3, n2, Bool.false_eq_true, iv, q2, q3, q4, q5, q6, q7, ↓WP_seq, ↓WP_skip, ↓WP_region, ↓WP_dregion, ↓WP_cond, ↓WP_block, ↓WP_exit, ↓WP_ret, ↓OW_nil, ↓OW_cons, ↓DW_nil, ↓DW_cons, ↓XW_call, XW, exA, KO_eq, KD_eq, OptK_some, EvK_some, GW2_true, GW2_false, KS_normal, KS_ret, KS_exit, KB_normal, KB_ret, KB_exit, CP2_bool, RP_ret, RP_normal, putA_some, putA_none, ev_t, ev_c, evs, evo, wantA, initA, resA, Tr.get_set, vl, chkOk, cond_true, cond_false, Nat.add_zero, Nat.mul_one, Nat.one_mul, Nat.zero_add, Nat.zero_mul, aggOf, pInt, binA, unA, intA, beq_true, beq_false, Bool.not_true, Bool.not_false, Bool.not_eq_true, and_self, and_true, true_and, ↓reduceIte, reduceIte, Nat.reduceEqDiff, Nat.succ_ne_self, Nat.reduceAdd, Nat.reduceMul, Nat.reduceSub, Nat.reduceBEq, Nat.reduceLT, Nat.reduceLeDiff, Int.cast_ofNat_Int, Int.reduceToNat, Int.reduceLT, Int.reduceLE, Int.reduceGE, Int.reduceGT, Int.reduceEq, Int.reduceNe, Int.reduceAdd, Int.reduceSub, Int.reduceNeg, decide_true, decide_false, Int.toNat_natCast, reduceCtorEq, List.nil_append, List.cons_append, AV.boxy, AV.cells, List.length_cons, List.length_nil, Nat.beq_refl, AOp.cl, ↓OW_guard, ↓DW_guard, KDW_0, KDW_1, KDW_2, OWskip_eq, DWskip_eq, fillA, setAt, DChk, DAt, stepA, ble_dec, beq_dec, Bool.and_self, Bool.and_true, Bool.true_and, Bool.and_false, Bool.false_and, List.take_succ_cons, List.take_zero, List.drop_succ_cons, List.drop_zero, List.take_nil, List.drop_nil, List.append_nil, eqAV, eqAVL, BEq.rfl, eqA, eqD, sameS, Option.map, Option.isNone, addrA, wrap64, gt_iff_lt, ge_iff_le, Int.lt_irrefl, Int.le_refl]
        refine CW.mono (c_rEnd hw2 inv) ?_
        rintro v4 H4 ⟨rfl, g4'⟩
        have hn4 := g4'.2.1
        obtain ⟨duo4, k4⟩ := nw _ _ g4'
        obtain ⟨c0, c1, c2, c3⟩ := rr H4 (by omega) (by rw [k4 _ (.inr rfl), k3 _ (.inr rfl)])
        simp -implicitDefEqProofs only [g0, g3, g4, g5, hlt', hlt2, hi0, ld, st, a0, a1, a2, a3, b0, b1, b2, b3, c0, c1, c2, c3, n2, Bool.false_eq_true, iv, q2, q3, q4, q5, q6, q7, ↓WP_seq, ↓WP_skip, ↓WP_region, ↓WP_dregion, ↓WP_cond, ↓WP_block, ↓WP_exit, ↓WP_ret, ↓OW_nil, ↓OW_cons, ↓DW_nil, ↓DW_cons, ↓XW_call, XW, exA, KO_eq, KD_eq, OptK_some, EvK_some, GW2_true, GW2_false, KS_normal, KS_ret, KS_exit, KB_normal, KB_ret, KB_exit, CP2_bool, RP_ret, RP_normal, putA_some, putA_none, ev_t, ev_c, evs, evo, wantA, initA, resA, Tr.get_set, vl, chkOk, cond_true, cond_false, Nat.add_zero, Nat.mul_one, Nat.one_mul, Nat.zero_add, Nat.zero_mul, aggOf, pInt, binA, unA, intA, beq_true, beq_false, Bool.not_true, Bool.not_false, Bool.not_eq_true, and_self, and_true, true_and, ↓reduceIte, reduceIte, Nat.reduceEqDiff, Nat.succ_ne_self, Nat.reduceAdd, Nat.reduceMul, Nat.reduceSub, Nat.reduceBEq, Nat.reduceLT, Nat.reduceLeDiff, Int.cast_ofNat_Int, Int.reduceToNat, Int.reduceLT, Int.reduceLE, Int.reduceGE, Int.reduceGT, Int.reduceEq, Int.reduceNe, Int.reduceAdd, Int.reduceSub, Int.reduceNeg, decide_true, decide_false, Int.toNat_natCast, reduceCtorEq, List.nil_append, List.cons_append, AV.boxy, AV.cells, List.length_cons, List.length_nil, Nat.beq_refl, AOp.cl, ↓OW_guard, ↓DW_guard, KDW_0, KDW_1, KDW_2, OWskip_eq, DWskip_eq, fillA, setAt, DChk, DAt, stepA, ble_dec, beq_dec, Bool.and_self, Bool.and_true, Bool.true_and, Bool.and_false, Bool.false_and, List.take_succ_cons, List.take_zero, List.drop_succ_cons, List.drop_zero, List.take_nil, List.drop_nil, List.append_nil, eqAV, eqAVL, BEq.rfl, eqA, eqD, sameS, Option.map, Option.isNone, addrA, wrap64, gt_iff_lt, ge_iff_le, Int.lt_irrefl, Int.le_refl]
        have duoE := duo4.sub (K' := fun y => y < H.next) fun y hy => .inl hy
        refine CW.mono (c_sameD duoE (inv.mEnd)) ?_
        rintro v6 H6 ⟨rfl, rfl⟩
        simp -implicitDefEqProofs only [g0, g3, g4, g5, hlt', hlt2, hi0, ld, st, a0, a1, a2, a3, b0, b1, b2, b3, c0, c1, c2, c3, n2, Bool.false_eq_true, hw, iv, q2, q3, q4, q5, q6, q7, ↓WP_seq, ↓WP_skip, ↓WP_region, ↓WP_dregion, ↓WP_cond, ↓WP_block, ↓WP_exit, ↓WP_ret, ↓OW_nil, ↓OW_cons, ↓DW_nil, ↓DW_cons, ↓XW_call, XW, exA, KO_eq, KD_eq, OptK_some, EvK_some, GW2_true, GW2_false, KS_normal, KS_ret, KS_exit, KB_normal, KB_ret, KB_exit, CP2_bool, RP_ret, RP_normal, putA_some, putA_none, ev_t, ev_c, evs, evo, wantA, initA, resA, Tr.get_set, vl, chkOk, cond_true, cond_false, Nat.add_zero, Nat.mul_one, Nat.one_mul, Nat.zero_add, Nat.zero_mul, aggOf, pInt, binA, unA, intA, beq_true, beq_false, Bool.not_true, Bool.not_false, Bool.not_eq_true, and_self, and_true, true_and, ↓reduceIte, reduceIte, Nat.reduceEqDiff, Nat.succ_ne_self, Nat.reduceAdd, Nat.reduceMul, Nat.reduceSub, Nat.reduceBEq, Nat.reduceLT, Nat.reduceLeDiff, Int.cast_ofNat_Int, Int.reduceToNat, Int.reduceLT, Int.reduceLE, Int.reduceGE, Int.reduceGT, Int.reduceEq, Int.reduceNe, Int.reduceAdd, Int.reduceSub, Int.reduceNeg, decide_true, decide_false, Int.toNat_natCast, reduceCtorEq, List.nil_append, List.cons_append, AV.boxy, AV.cells, List.length_cons, List.length_nil, Nat.beq_refl, AOp.cl, ↓OW_guard, ↓DW_guard, KDW_0, KDW_1, KDW_2, OWskip_eq, DWskip_eq, fillA, setAt, DChk, DAt, stepA, ble_dec, beq_dec, Bool.and_self, Bool.and_true, Bool.true_and, Bool.and_false, Bool.false_and, List.take_succ_cons, List.take_zero, List.drop_succ_cons, List.drop_zero, List.take_nil, List.drop_nil, List.append_nil, eqAV, eqAVL, BEq.rfl, eqA, eqD, sameS, Option.map, Option.isNone, addrA, wrap64, gt_iff_lt, ge_iff_le, Int.lt_irrefl, Int.le_refl]
        refine ⟨n - 1, by omega, i + 1, _, by omega, by omega, inv.mEnd, ⟨by have := ch2.1; omega, fun z hz => ?_⟩, rfl, duoE⟩
        have e : H6.get z = H.get z := by rw [k4 _ (.inl hz), k3 _ (.inl hz), ch2.keep hz (by simp)]
        exact ⟨.inl e, fun _ => e⟩
      have q7 : (x.1 == 7) = false := by simp [k7]
      simp -implicitDefEqProofs only [g0, g3, g4, g5, hlt', hlt2, hi0, ld, st, a0, a1, a2, a3, n2, Bool.false_eq_true, q2, q3, q4, q5, q6, q7, ↓WP_seq, ↓WP_skip, ↓WP_region, ↓WP_dregion, ↓WP_cond, ↓WP_block, ↓WP_exit, ↓WP_ret, ↓OW_nil, ↓OW_cons, ↓DW_nil, ↓DW_cons, ↓XW_call, XW, exA, KO_eq, KD_eq, OptK_some, EvK_some, GW2_true, GW2_false, KS_normal, KS_ret, KS_exit, KB_normal, KB_ret, KB_exit, CP2_bool, RP_ret, RP_normal, putA_some, putA_none, ev_t, ev_c, evs, evo, wantA, initA, resA, Tr.get_set, vl, chkOk, cond_true, cond_false, Nat.add_zero, Nat.mul_one, Nat.one_mul, Nat.zero_add, Nat.zero_mul, aggOf, pInt, binA, unA, intA, beq_true, beq_false, Bool.not_true, Bool.not_false, Bool.not_eq_true, and_self, and_true, true_and, ↓reduceIte, reduceIte, Nat.reduceEqDiff, Nat.succ_ne_self, Nat.reduceAdd, Nat.reduceMul, Nat.reduceSub, Nat.reduceBEq, Nat.reduceLT, Nat.reduceLeDiff, Int.cast_ofNat_Int, Int.reduceToNat, Int.reduceLT, Int.reduceLE, Int.reduceGE, Int.reduceGT, Int.reduceEq, Int.reduceNe, Int.reduceAdd, Int.reduceSub, Int.reduceNeg, decide_true, decide_false, Int.toNat_natCast, reduceCtorEq, List.nil_append, List.cons_append, AV.boxy, AV.cells, List.length_cons, List.length_nil, Nat.beq_refl, AOp.cl, ↓OW_guard, ↓DW_guard, KDW_0, KDW_1, KDW_2, OWskip_eq, DWskip_eq, fillA, setAt, DChk, DAt, stepA, ble_dec, beq_dec, Bool.and_self, Bool.and_true, Bool.true_and, Bool.and_false, Bool.false_and, List.take_succ_cons, List.take_zero, List.drop_succ_cons, List.drop_zero, List.take_nil, List.drop_nil, List.append_nil, eqAV, eqAVL, BEq.rfl, eqA, eqD, sameS, Option.map, Option.isNone, addrA, wrap64, gt_iff_lt, ge_iff_le, Int.lt_irrefl, Int.le_refl]
      obtain ⟨f, D, f4, D4, hq, hD4, hw4, nq⟩ := duo2.both
      refine CW.mono (c_Ready hq inv x.2.1 x.2.2.1) ?_
      rintro v3 H3 ⟨rfl, g3'⟩
      have hn3 := g3'.2.1
      obtain ⟨hw2, k3, nw⟩ := nq _ _ g3'
      obtain ⟨b0, b1, b2, b3⟩ := rr H3 hn3 (k3 _ (.inr rfl))
      simp -implicitDefEqProofs only [g0, g3, g4, g5, hlt', hlt2, hi0, ld, st, a0, a1, a2, a3, b0, b1, b2, b3, n2, Bool.false_eq_true, iv, q2, q3, q4, q5, q6, q7, ↓WP_seq, ↓WP_skip, ↓WP_region, ↓WP_dregion, ↓WP_cond, ↓WP_block, ↓WP_exit, ↓WP_ret, ↓OW_nil, ↓OW_cons, ↓DW_nil, ↓DW_cons, ↓XW_call, XW, exA, KO_eq, KD_eq, OptK_some, EvK_some, GW2_true, GW2_false, KS_normal, KS_ret, KS_exit, KB_normal, KB_ret, KB_exit, CP2_bool, RP_ret, RP_normal, putA_some, putA_none, ev_t, ev_c, evs, evo, wantA, initA, resA, Tr.get_set, vl, chkOk, cond_true, cond_false, Nat.add_zero, Nat.mul_one, Nat.one_mul, Nat.zero_add, Nat.zero_mul, aggOf, pInt, binA, unA, intA, beq_true, beq_false, Bool.not_true, Bool.not_false, Bool.not_eq_true, and_self, and_true, true_and, ↓reduceIte, reduceIte, Nat.reduceEqDiff, Nat.succ_ne_self, Nat.reduceAdd, Nat.reduceMul, Nat.reduceSub, Nat.reduceBEq, Nat.reduceLT, Nat.reduceLeDiff, Int.cast_ofNat_Int, Int.reduceToNat, Int.reduceLT, Int.reduceLE, Int.reduceGE, Int.reduceGT, Int.reduceEq, Int.reduceNe, Int.reduceAdd, Int.reduceSub, Int.reduceNeg, decide_true, decide_false, Int.toNat_natCast, reduceCtorEq, List.nil_append, List.cons_append, AV.boxy, AV.cells, List.length_cons, List.length_nil, Nat.beq_refl, AOp.cl, ↓OW_guard, ↓DW_guard, KDW_0, KDW_1, KDW_2, OWskip_eq, DWskip_eq, fillA, setAt, DChk, DAt, stepA, ble_dec, beq_dec, Bool.and_self, Bool.and_true, Bool.true_and, Bool.and_false, Bool.false_and, List.take_succ_cons, List.take_zero, List.drop_succ_cons, List.drop_zero, List.take_nil, List.drop_nil, List.append_nil, eqAV, eqAVL, BEq.rfl, eqA, eqD, sameS, Option.map, Option.isNone, addrA, wrap64, gt_iff_lt, ge_iff_le, Int.lt_irrefl, Int.le_refl]
      refine CW.mono (c_rReady hw2 inv x.2.1 x.2.2.1) ?_
      rintro v4 H4 ⟨rfl, g4'⟩
      have hn4 := g4'.2.1
      obtain ⟨duo4, k4⟩ := nw _ _ g4'
      obtain ⟨c0, c1, c2, c3⟩ := rr H4 (by omega) (by rw [k4 _ (.inr rfl), k3 _ (.inr rfl)])
      simp -implicitDefEqProofs only [g0, g3, g4, g5, hlt', hlt2, hi0, ld, st, a0, a1, a2, a3, b0, b1, b2, b3, c0, c1, c2, c3, n2, Bool.false_eq_true, iv, q2, q3, q4, q5, q6, q7, ↓WP_seq, ↓WP_skip, ↓WP_region, ↓WP_dregion, ↓WP_cond, ↓WP_block, ↓WP_exit, ↓WP_ret, ↓OW_nil, ↓OW_cons, ↓DW_nil, ↓DW_cons, ↓XW_call, XW, exA, KO_eq, KD_eq, OptK_some, EvK_some, GW2_true, GW2_false, KS_normal, KS_ret, KS_exit, KB_normal, KB_ret, KB_exit, CP2_bool, RP_ret, RP_normal, putA_some, putA_none, ev_t, ev_c, evs, evo, wantA, initA, resA, Tr.get_set, vl, chkOk, cond_true, cond_false, Nat.add_zero, Nat.mul_one, Nat.one_mul, Nat.zero_add, Nat.zero_mul, aggOf, pInt, binA, unA, intA, beq_true, beq_false, Bool.not_true, Bool.not_false, Bool.not_eq_true, and_self, and_true, true_and, ↓reduceIte, reduceIte, Nat.reduceEqDiff, Nat.succ_ne_self, Nat.reduceAdd, Nat.reduceMul, Nat.reduceSub, Nat.reduceBEq, Nat.reduceLT, Nat.reduceLeDiff, Int.cast_ofNat_Int, Int.reduceToNat, Int.reduceLT, Int.reduceLE, Int.reduceGE, Int.reduceGT, Int.reduceEq, Int.reduceNe, Int.reduceAdd, Int.reduceSub, Int.reduceNeg, decide_true, decide_false, Int.toNat_natCast, reduceCtorEq, List.nil_append, List.cons_append, AV.boxy, AV.cells, List.length_cons, List.length_nil, Nat.beq_refl, AOp.cl, ↓OW_guard, ↓DW_guard, KDW_0, KDW_1, KDW_2, OWskip_eq, DWskip_eq, fillA, setAt, DChk, DAt, stepA, ble_dec, beq_dec, Bool.and_self, Bool.and_true, Bool.true_and, Bool.and_false, Bool.false_and, List.take_succ_cons, List.take_zero, List.drop_succ_cons, List.drop_zero, List.take_nil, List.drop_nil, List.append_nil, eqAV, eqAVL, BEq.rfl, eqA, eqD, sameS, Option.map, Option.isNone, addrA, wrap64, gt_iff_lt, ge_iff_le, Int.lt_irrefl, Int.le_refl]
      have duoE := duo4.sub (K' := fun y => y < H.next) fun y hy => .inl hy
      refine CW.mono (c_sameD duoE (inv.mReady x.2.1 x.2.2.1)) ?_
      rintro v6 H6 ⟨rfl, rfl⟩
      simp -implicitDefEqProofs only [g0, g3, g4, g5, hlt', hlt2, hi0, ld, st, a0, a1, a2, a3, b0, b1, b2, b3, c0, c1, c2, c3, n2, Bool.false_eq_true, hw, iv, q2, q3, q4, q5, q6, q7, ↓WP_seq, ↓WP_skip, ↓WP_region, ↓WP_dregion, ↓WP_cond, ↓WP_block, ↓WP_exit, ↓WP_ret, ↓OW_nil, ↓OW_cons, ↓DW_nil, ↓DW_cons, ↓XW_call, XW, exA, KO_eq, KD_eq, OptK_some, EvK_some, GW2_true, GW2_false, KS_normal, KS_ret, KS_exit, KB_normal, KB_ret, KB_exit, CP2_bool, RP_ret, RP_normal, putA_some, putA_none, ev_t, ev_c, evs, evo, wantA, initA, resA, Tr.get_set, vl, chkOk, cond_true, cond_false, Nat.add_zero, Nat.mul_one, Nat.one_mul, Nat.zero_add, Nat.zero_mul, aggOf, pInt, binA, unA, intA, beq_true, beq_false, Bool.not_true, Bool.not_false, Bool.not_eq_true, and_self, and_true, true_and, ↓reduceIte, reduceIte, Nat.reduceEqDiff, Nat.succ_ne_self, Nat.reduceAdd, Nat.reduceMul, Nat.reduceSub, Nat.reduceBEq, Nat.reduceLT, Nat.reduceLeDiff, Int.cast_ofNat_Int, Int.reduceToNat, Int.reduceLT, Int.reduceLE, Int.reduceGE, Int.reduceGT, Int.reduceEq, Int.reduceNe, Int.reduceAdd, Int.reduceSub, Int.reduceNeg, decide_true, decide_false, Int.toNat_natCast, reduceCtorEq, List.nil_append, List.cons_append, AV.boxy, AV.cells, List.length_cons, List.length_nil, Nat.beq_refl, AOp.cl, ↓OW_guard, ↓DW_guard, KDW_0, KDW_1, KDW_2, OWskip_eq, DWskip_eq, fillA, setAt, DChk, DAt, stepA, ble_dec, beq_dec, Bool.and_self, Bool.and_true, Bool.true_and, Bool.and_false, Bool.false_and, List.take_succ_cons, List.take_zero, List.drop_succ_cons, List.drop_zero, List.take_nil, List.drop_nil, List.append_nil, eqAV, eqAVL, BEq.rfl, eqA, eqD, sameS, Option.map, Option.isNone, addrA, wrap64, gt_iff_lt, ge_iff_le, Int.lt_irrefl, Int.le_refl]
      refine ⟨n - 1, by omega, i + 1, _, by omega, by omega, inv.mReady x.2.1 x.2.2.1, ⟨by have := ch2.1; omega, fun z hz => ?_⟩, rfl, duoE⟩
      have e : H6.get z = H.get z := by rw [k4 _ (.inl hz), k3 _ (.inl hz), ch2.keep hz (by simp)]
      exact ⟨.inl e, fun _ => e⟩
    · have fin : True := trivial
      by_cases h1 : i < l.length
      · have h1' : (i : Int) < (l.length : Int) := by omega
        have h2' : ¬ (i : Int) < 150 := by omega
        simp -implicitDefEqProofs only [g0, g3, g4, g5, h1', h2', Bool.false_eq_true, ↓WP_seq, ↓WP_skip, ↓WP_region, ↓WP_dregion, ↓WP_cond, ↓WP_block, ↓WP_exit, ↓WP_ret, ↓OW_nil, ↓OW_cons, ↓DW_nil, ↓DW_cons, ↓XW_call, XW, exA, KO_eq, KD_eq, OptK_some, EvK_some, GW2_true, GW2_false, KS_normal, KS_ret, KS_exit, KB_normal, KB_ret, KB_exit, CP2_bool, RP_ret, RP_normal, putA_some, putA_none, ev_t, ev_c, evs, evo, wantA, initA, resA, Tr.get_set, vl, chkOk, cond_true, cond_false, Nat.add_zero, Nat.mul_one, Nat.one_mul, Nat.zero_add, Nat.zero_mul, aggOf, pInt, binA, unA, intA, beq_true, beq_false, Bool.not_true, Bool.not_false, Bool.not_eq_true, and_self, and_true, true_and, ↓reduceIte, reduceIte, Nat.reduceEqDiff, Nat.succ_ne_self, Nat.reduceAdd, Nat.reduceMul, Nat.reduceSub, Nat.reduceBEq, Nat.reduceLT, Nat.reduceLeDiff, Int.cast_ofNat_Int, Int.reduceToNat, Int.reduceLT, Int.reduceLE, Int.reduceGE, Int.reduceGT, Int.reduceEq, Int.reduceNe, Int.reduceAdd, Int.reduceSub, Int.reduceNeg, decide_true, decide_false, Int.toNat_natCast, reduceCtorEq, List.nil_append, List.cons_append, AV.boxy, AV.cells, List.length_cons, List.length_nil, Nat.beq_refl, AOp.cl, ↓OW_guard, ↓DW_guard, KDW_0, KDW_1, KDW_2, OWskip_eq, DWskip_eq, fillA, setAt, DChk, DAt, stepA, ble_dec, beq_dec, Bool.and_self, Bool.and_true, Bool.true_and, Bool.and_false, Bool.false_and, List.take_succ_cons, List.take_zero, List.drop_succ_cons, List.drop_zero, List.take_nil, List.drop_nil, List.append_nil, eqAV, eqAVL, BEq.rfl, eqA, eqD, sameS, Option.map, Option.isNone, addrA, wrap64, gt_iff_lt, ge_iff_le, Int.lt_irrefl, Int.le_refl]
        refine CW.mono (c_sameD duo inv) ?_
        rintro v6 H6 ⟨rfl, rfl⟩
        simp -implicitDefEqProofs only [g0, g3, g4, g5, h1', h2', Bool.false_eq_true, ↓WP_seq, ↓WP_skip, ↓WP_region, ↓WP_dregion, ↓WP_cond, ↓WP_block, ↓WP_exit, ↓WP_ret, ↓OW_nil, ↓OW_cons, ↓DW_nil, ↓DW_cons, ↓XW_call, XW, exA, KO_eq, KD_eq, OptK_some, EvK_some, GW2_true, GW2_false, KS_normal, KS_ret, KS_exit, KB_normal, KB_ret, KB_exit, CP2_bool, RP_ret, RP_normal, putA_some, putA_none, ev_t, ev_c, evs, evo, wantA, initA, resA, Tr.get_set, vl, chkOk, cond_true, cond_false, Nat.add_zero, Nat.mul_one, Nat.one_mul, Nat.zero_add, Nat.zero_mul, aggOf, pInt, binA, unA, intA, beq_true, beq_false, Bool.not_true, Bool.not_false, Bool.not_eq_true, and_self, and_true, true_and, ↓reduceIte, reduceIte, Nat.reduceEqDiff, Nat.succ_ne_self, Nat.reduceAdd, Nat.reduceMul, Nat.reduceSub, Nat.reduceBEq, Nat.reduceLT, Nat.reduceLeDiff, Int.cast_ofNat_Int, Int.reduceToNat, Int.reduceLT, Int.reduceLE, Int.reduceGE, Int.reduceGT, Int.reduceEq, Int.reduceNe, Int.reduceAdd, Int.reduceSub, Int.reduceNeg, decide_true, decide_false, Int.toNat_natCast, reduceCtorEq, List.nil_append, List.cons_append, AV.boxy, AV.cells, List.length_cons, List.length_nil, Nat.beq_refl, AOp.cl, ↓OW_guard, ↓DW_guard, KDW_0, KDW_1, KDW_2, OWskip_eq, DWskip_eq, fillA, setAt, DChk, DAt, stepA, ble_dec, beq_dec, Bool.and_self, Bool.and_true, Bool.true_and, Bool.and_false, Bool.false_and, List.take_succ_cons, List.take_zero, List.drop_succ_cons, List.drop_zero, List.take_nil, List.drop_nil, List.append_nil, eqAV, eqAVL, BEq.rfl, eqA, eqD, sameS, Option.map, Option.isNone, addrA, wrap64, gt_iff_lt, ge_iff_le, Int.lt_irrefl, Int.le_refl]
        exact ch
      · have h1' : ¬ (i : Int) < (l.length : Int) := by omega
        simp -implicitDefEqProofs only [g0, g3, g4, g5, h1', Bool.false_eq_true, ↓WP_seq, ↓WP_skip, ↓WP_region, ↓WP_dregion, ↓WP_cond, ↓WP_block, ↓WP_exit, ↓WP_ret, ↓OW_nil, ↓OW_cons, ↓DW_nil, ↓DW_cons, ↓XW_call, XW, exA, KO_eq, KD_eq, OptK_some, EvK_some, GW2_true, GW2_false, KS_normal, KS_ret, KS_exit, KB_normal, KB_ret, KB_exit, CP2_bool, RP_ret, RP_normal, putA_some, putA_none, ev_t, ev_c, evs, evo, wantA, initA, resA, Tr.get_set, vl, chkOk, cond_true, cond_false, Nat.add_zero, Nat.mul_one, Nat.one_mul, Nat.zero_add, Nat.zero_mul, aggOf, pInt, binA, unA, intA, beq_true, beq_false, Bool.not_true, Bool.not_false, Bool.not_eq_true, and_self, and_true, true_and, ↓reduceIte, reduceIte, Nat.reduceEqDiff, Nat.succ_ne_self, Nat.reduceAdd, Nat.reduceMul, Nat.reduceSub, Nat.reduceBEq, Nat.reduceLT, Nat.reduceLeDiff, Int.cast_ofNat_Int, Int.reduceToNat, Int.reduceLT, Int.reduceLE, Int.reduceGE, Int.reduceGT, Int.reduceEq, Int.reduceNe, Int.reduceAdd, Int.reduceSub, Int.reduceNeg, decide_true, decide_false, Int.toNat_natCast, reduceCtorEq, List.nil_append, List.cons_append, AV.boxy, AV.cells, List.length_cons, List.length_nil, Nat.beq_refl, AOp.cl, ↓OW_guard, ↓DW_guard, KDW_0, KDW_1, KDW_2, OWskip_eq, DWskip_eq, fillA, setAt, DChk, DAt, stepA, ble_dec, beq_dec, Bool.and_self, Bool.and_true, Bool.true_and, Bool.and_false, Bool.false_and, List.take_succ_cons, List.take_zero, List.drop_succ_cons, List.drop_zero, List.take_nil, List.drop_nil, List.append_nil, eqAV, eqAVL, BEq.rfl, eqA, eqD, sameS, Option.map, Option.isNone, addrA, wrap64, gt_iff_lt, ge_iff_le, Int.lt_irrefl, Int.le_refl]
        refine CW.mono (c_sameD duo inv) ?_
        rintro v6 H6 ⟨rfl, rfl⟩
        simp -implicitDefEqProofs only [g0, g3, g4, g5, h1', Bool.false_eq_true, ↓WP_seq, ↓WP_skip, ↓WP_region, ↓WP_dregion, ↓WP_cond, ↓WP_block, ↓WP_exit, ↓WP_ret, ↓OW_nil, ↓OW_cons, ↓DW_nil, ↓DW_cons, ↓XW_call, XW, exA, KO_eq, KD_eq, OptK_some, EvK_some, GW2_true, GW2_false, KS_normal, KS_ret, KS_exit, KB_normal, KB_ret, KB_exit, CP2_bool, RP_ret, RP_normal, putA_some, putA_none, ev_t, ev_c, evs, evo, wantA, initA, resA, Tr.get_set, vl, chkOk, cond_true, cond_false, Nat.add_zero, Nat.mul_one, Nat.one_mul, Nat.zero_add, Nat.zero_mul, aggOf, pInt, binA, unA, intA, beq_true, beq_false, Bool.not_true, Bool.not_false, Bool.not_eq_true, and_self, and_true, true_and, ↓reduceIte, reduceIte, Nat.reduceEqDiff, Nat.succ_ne_self, Nat.reduceAdd, Nat.reduceMul, Nat.reduceSub, Nat.reduceBEq, Nat.reduceLT, Nat.reduceLeDiff, Int.cast_ofNat_Int, Int.reduceToNat, Int.reduceLT, Int.reduceLE, Int.reduceGE, Int.reduceGT, Int.reduceEq, Int.reduceNe, Int.reduceAdd, Int.reduceSub, Int.reduceNeg, decide_true, decide_false, Int.toNat_natCast, reduceCtorEq, List.nil_append, List.cons_append, AV.boxy, AV.cells, List.length_cons, List.length_nil, Nat.beq_refl, AOp.cl, ↓OW_guard, ↓DW_guard, KDW_0, KDW_1, KDW_2, OWskip_eq, DWskip_eq, fillA, setAt, DChk, DAt, stepA, ble_dec, beq_dec, Bool.and_self, Bool.and_true, Bool.true_and, Bool.and_false, Bool.false_and, List.take_succ_cons, List.take_zero, List.drop_succ_cons, List.drop_zero, List.take_nil, List.drop_nil, List.append_nil, eqAV, eqAVL, BEq.rfl, eqA, eqD, sameS, Option.map, Option.isNone, addrA, wrap64, gt_iff_lt, ge_iff_le, Int.lt_irrefl, Int.le_refl]
        exact ch
end
end Go.Proofs.Ytldlolpbnfgdeaa.AA
