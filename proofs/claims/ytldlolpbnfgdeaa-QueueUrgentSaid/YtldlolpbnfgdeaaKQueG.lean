/- The queue: those that sleep wake by time. -/
import Derived.Test.YtldlolpbnfgdeaaKQueF
set_option linter.unusedSimpArgs false
set_option linter.unusedVariables false
namespace Go.Proofs.Ytldlolpbnfgdeaa.AA
open Go Go.RowKit
set_option maxRecDepth 100000
attribute [local irreducible] Tr.set
set_option maxHeartbeats 4000000
/-! Sleepers wake by time. -/
def sorted (l : List (Nat × Int)) : Prop := ∀ i x y, l[i]? = some x → l[i + 1]? = some y → x.2 ≤ y.2
def Srt (l : List (Nat × Int)) : Prop := l.Pairwise fun x y => x.2 ≤ y.2
theorem bub_srt : ∀ (r : List (Nat × Int)) (x : Nat × Int) (post : List (Nat × Int)), Srt (r.reverse ++ post) → (∀ y, y ∈ post → x.2 ≤ y.2) → Srt (bub r x post)
  | [], x, post, h, hp => by
    simp only [bub, Srt, List.pairwise_cons]
    exact ⟨hp, by simpa [Srt] using h⟩
  | y :: r, x, post, h, hp => by
    unfold bub
    rw [List.reverse_cons, List.append_assoc] at h
    split
    · rename_i hlt
      refine bub_srt r x (y :: post) h fun z hz => ?_
      rcases List.mem_cons.1 hz with rfl | hz
      · omega
      · exact hp z hz
    · rename_i hge
      simp only [Srt, List.pairwise_append, List.singleton_append] at h
      obtain ⟨h1, h2, h3⟩ := h
      simp only [Srt, List.pairwise_append]
      refine ⟨h1, ?_, fun a ha b hb => ?_⟩
      · simp only [List.pairwise_cons] at h2 ⊢
        refine ⟨fun b hb => ?_, hp, h2.2⟩
        rcases List.mem_cons.1 hb with rfl | hb
        · omega
        · exact h2.1 b hb
      · rcases List.mem_cons.1 hb with rfl | hb
        · exact h3 a ha b (List.mem_cons_self ..)
        · rcases List.mem_cons.1 hb with rfl | hb
          · have := h3 a ha y (List.mem_cons_self ..); omega
          · exact h3 a ha b (List.mem_cons_of_mem _ hb)
theorem isort_srt (l : List (Nat × Int)) : Srt (isort l) := by
  have key : ∀ (l S : List (Nat × Int)), Srt S → Srt (l.foldl (fun S x => bub S.reverse x []) S) := by
    intro l
    induction l with
    | nil => intro S h; exact h
    | cons x l ih => intro S h; exact ih _ (bub_srt S.reverse x [] (by simpa using h) (by simp))
  exact key l [] List.Pairwise.nil
theorem Srt.next {l : List (Nat × Int)} (h : Srt l) {i : Nat} {x y : Nat × Int} (hx : l[i]? = some x) (hy : l[i + 1]? = some y) : x.2 ≤ y.2 := by
  have h1 := List.getElem?_eq_some_iff.1 hx
  have h2 := List.getElem?_eq_some_iff.1 hy
  obtain ⟨a, rfl⟩ := h1
  obtain ⟨b, rfl⟩ := h2
  exact (List.pairwise_iff_getElem.1 h) i (i + 1) a b (by omega)
/-- How many are ready. -/
def tot (s : QS) : Nat := (s.r 0).length + (s.r 1).length + (s.r 2).length + (s.r 3).length
theorem tot_setr (s : QS) {i : Nat} (hi : i < 4) (l : List Nat) : tot (s.setr i l) + (s.r i).length = tot s + l.length := by
  have : i = 0 ∨ i = 1 ∨ i = 2 ∨ i = 3 := by omega
  rcases this with rfl | rfl | rfl | rfl <;> simp [tot, QS.setr, upd] <;> omega
theorem top_of_tot {s : QS} (h : 0 < tot s) : ∃ p, fst1 s = some p := by
  have : top s ≠ none := by
    intro e
    unfold top at e
    unfold tot at h
    split at e
    · cases e
    · split at e
      · cases e
      · split at e
        · cases e
        · split at e
          · cases e
          · simp_all
  cases e : top s with
  | none => exact absurd e this
  | some l =>
    obtain ⟨-, p, t, hr⟩ := top_some e
    exact ⟨p, fst1_top e hr⟩
theorem fst1_of_tot0 {s : QS} (h : tot s = 0) : fst1 s = none := by
  unfold tot at h
  have h0 : s.r 0 = [] := List.length_eq_zero_iff.1 (by omega)
  have h1 : s.r 1 = [] := List.length_eq_zero_iff.1 (by omega)
  have h2 : s.r 2 = [] := List.length_eq_zero_iff.1 (by omega)
  have h3 : s.r 3 = [] := List.length_eq_zero_iff.1 (by omega)
  simp [fst1, top, h0, h1, h2, h3]
theorem tot_tk {s : QS} {p : Nat} (h : fst1 s = some p) : tot (tk s) + 1 = tot s := by
  obtain ⟨l, t, ht, hl, e⟩ := fst1_some h
  have hk : tk s = s.setr l t := by simp [tk, ht, e]
  have := tot_setr s hl t
  rw [hk]
  rw [e] at this
  simp at this
  omega
theorem tot_ps {s : QS} {p : Nat} (h : s.lv p < 4) : tot (ps s p) = tot s + 1 := by
  have := tot_setr s h (s.r (s.lv p) ++ [p])
  unfold ps
  simp at this
  omega
theorem tot_pss : ∀ (l : List Nat) (s : QS), (∀ p, s.lv p < 4) → tot (pss s l) = tot s + l.length
  | [], s, h => rfl
  | p :: l, s, h => by
    have : pss s (p :: l) = pss (ps s p) l := rfl
    rw [this, tot_pss l (ps s p) h, tot_ps (h p)]
    simp; omega
theorem notin {s : QS} (hi : Inv s) {p : Nat} (h : fst1 s = some p) : ∀ x, x ∈ s.s → x.1 ≠ p := by
  obtain ⟨l, t, ht, hl, e⟩ := fst1_some h
  intro x hx hxp
  have h1 := hi.le1 p
  have h2 := count_pos (List.mem_map_of_mem (f := (·.1)) hx)
  rw [hxp] at h2
  have h3 : 0 < (s.r l).count p := count_pos (by rw [e]; exact List.mem_cons_self ..)
  unfold cnt at h1
  have : l = 0 ∨ l = 1 ∨ l = 2 ∨ l = 3 := by omega
  rcases this with rfl | rfl | rfl | rfl <;> omega
/-- The times, as a map keeps them. -/
def mapE : Nat → List (Nat × Int) → List (AV × AV × Nat)
  | _, [] => []
  | n, x :: l => (iv x.1, iv x.2, n) :: mapE (n + 1) l
theorem mapE_append : ∀ (l : List (Nat × Int)) (n : Nat) (x : Nat × Int), mapE n (l ++ [x]) = mapE n l ++ [(iv x.1, iv x.2, n + l.length)]
  | [], n, x => rfl
  | y :: l, n, x => by simp [mapE, mapE_append l (n + 1) x]; omega
theorem find_none : ∀ (l : List (Nat × Int)) (n i : Nat) (p : Nat), (∀ x, x ∈ l → x.1 ≠ p) → findA (.sc .int) (.int .i64 p) (mapE n l) i = some none
  | [], n, i, p, h => rfl
  | y :: l, n, i, p, h => by
    have h1 : ((p : Int) == (y.1 : Int)) = false := by
      have := h y (List.mem_cons_self ..)
      simp; omega
    simp only [mapE, findA, eqA, eqD, sameS, iv, if_true, h1]
    exact find_none l (n + 1) (i + 1) p fun x hx => h x (List.mem_cons_of_mem _ hx)
theorem find_some : ∀ (l : List (Nat × Int)) (n i : Nat) (x : Nat × Int), x ∈ l → (∀ y, y ∈ l → y.1 = x.1 → y = x) → ∃ j k, findA (.sc .int) (.int .i64 x.1) (mapE n l) i = some (some (j, .int .i64 x.2, k))
  | [], n, i, x, h, _ => by cases h
  | y :: l, n, i, x, h, hu => by
    by_cases e : y.1 = x.1
    · obtain rfl := hu y (List.mem_cons_self ..) e
      refine ⟨i, n, ?_⟩
      simp [mapE, findA, eqA, eqD, sameS, iv, bitsA, bits1]
    · have h1 : ((x.1 : Int) == (y.1 : Int)) = false := by simp; omega
      have hx : x ∈ l := by
        rcases List.mem_cons.1 h with rfl | h
        · exact absurd rfl e
        · exact h
      obtain ⟨j, k, hj⟩ := find_some l (n + 1) (i + 1) x hx fun y hy => hu y (List.mem_cons_of_mem _ hy)
      refine ⟨j, k, ?_⟩
      simp only [mapE, findA, eqA, eqD, sameS, iv, if_true, h1]
      exact hj
theorem uniq_of {s : QS} (hi : Inv s) {x y : Nat × Int} (hx : x ∈ s.s) (hy : y ∈ s.s) (h : y.1 = x.1) : y = x := by
  have h1 := hi.le1 x.1
  have h2 : (s.s.map (·.1)).count x.1 ≤ 1 := by unfold cnt at h1; omega
  obtain ⟨a, c, e⟩ := List.append_of_mem hx
  rw [e] at hy h2
  simp only [List.map_append, List.map_cons, List.count_append, List.count_cons_self] at h2
  rcases List.mem_append.1 hy with hy | hy
  · have := count_pos (List.mem_map_of_mem (f := (·.1)) hy)
    rw [h] at this
    omega
  · rcases List.mem_cons.1 hy with rfl | hy
    · rfl
    · have := count_pos (List.mem_map_of_mem (f := (·.1)) hy)
      rw [h] at this
      omega
def and63 (x : Int) : Int := IntKind.i64.wrap ((BitVec.ofInt IntKind.i64.bits x &&& BitVec.ofInt IntKind.i64.bits 63).toNat : Int)
theorem and3 {p : Nat} (h : p < 6) : IntKind.i64.wrap ((BitVec.ofInt IntKind.i64.bits (p : Int) &&& BitVec.ofInt IntKind.i64.bits 3).toNat : Int) = ((p % 4 : Nat) : Int) := by
  have : p = 0 ∨ p = 1 ∨ p = 2 ∨ p = 3 ∨ p = 4 ∨ p = 5 := by omega
  rcases this with rfl | rfl | rfl | rfl | rfl | rfl <;> decide
end Go.Proofs.Ytldlolpbnfgdeaa.AA
namespace Go.Proofs.Ytldlolpbnfgdeaa.AA
open Go Go.RowKit
set_option maxRecDepth 100000
attribute [local irreducible] Tr.set
set_option maxHeartbeats 4000000
section
variable {H : AHeap} {K : Nat → Prop} {q : Nat} {s : QS}
/-- One queue, away from K. -/
def Solo (K : Nat → Prop) (H : AHeap) (q : Nat) (s : QS) : Prop := ∃ f D, QC H q 25 f D (gP s) ∧ ∀ y, K y → y < H.next ∧ y ≠ q ∧ ¬ D y
theorem Solo.on (h : Solo K H q s) : ∃ f D, QC H q 25 f D (gP s) ∧ ∀ H' s', Go H H' q 25 D (gP s') → Solo K H' q s' ∧ ∀ y, K y → H'.get y = H.get y := by
  obtain ⟨f, D, h1, h2⟩ := h
  refine ⟨f, D, h1, fun H' s' hg => ⟨?_, fun y hy => hg.2.2 y (h2 y hy).1 (h2 y hy).2.1 (h2 y hy).2.2⟩⟩
  obtain ⟨⟨f1, q1⟩, fp⟩ := hg
  refine ⟨f1, _, q1, fun y hy => ?_⟩
  obtain ⟨a, b, c⟩ := h2 y hy
  have := fp.1
  refine ⟨by omega, b, ?_⟩
  rintro (e | e)
  · exact c e
  · omega
/-- Elsewhere, and at kept blocks, the heap may go on. -/
theorem Solo.step {H' : AHeap} {K' : Nat → Prop} (h : Solo K H q s) (hl : H.next ≤ H'.next) (hg : ∀ y, y < H.next → ¬ K y → H'.get y = H.get y) (hK : ∀ y, K' y → y < H'.next ∧ (K y ∨ H.next ≤ y)) : Solo K' H' q s := by
  obtain ⟨f, D, h1, h2⟩ := h
  have hq := h1.blk.1
  refine ⟨f, D, h1.step hl (hg q hq fun e => (h2 q e).2.1 rfl) fun z hz => hg z (h1.dn z hz) fun e => (h2 z e).2.2 hz, fun y hy => ?_⟩
  obtain ⟨a, b | b⟩ := hK y hy
  · exact ⟨a, (h2 y b).2⟩
  · exact ⟨a, by omega, fun e => by have := h1.dn y e; omega⟩
theorem mReady_ok {p l : Nat} (hk : okR s p l = true) : tot (mReady s p l) = tot s + 1 ∧ (mReady s p l).s = s.s ∧ (mReady s p l).inn = upd s.inn p true := by
  have hl : l < 4 := by
    simp only [okR, Bool.and_eq_true, decide_eq_true_eq] at hk
    omega
  have e : mReady s p l = ps (inn1 s p l) p := by simp only [mReady, hk, if_true, Int.toNat_natCast]
  have e1 : (inn1 s p l).lv p = l := by simp [inn1, upd]
  have e2 : tot (inn1 s p l) = tot s := rfl
  rw [e]
  exact ⟨by rw [tot_ps (by rw [e1]; exact hl), e2], rfl, rfl⟩
theorem mSleep_ok {p : Nat} {u : Int} (h : fst1 s = some p) : tot (mSleep s u) + 1 = tot s ∧ (mSleep s u).s = s.s ++ [(p, u)] := by
  have e : mSleep s u = (tk s).sets ((tk s).s ++ [(p, u)]) := by simp only [mSleep, h]
  rw [e]
  exact ⟨tot_tk h, by rw [tk_s]; rfl⟩
theorem c_sleeps {v : AV} {N : Nat} {f : Nat → Int} (hs : Sv H v N ((List.range N).map fun j => iv (f j))) (now : Int) : CW M0 9 [v, iv now] H fun u _ => u = .bool true := by
  refine CW_of (fn := af9) rfl ?_
  obtain ⟨a, s0, cl, ev, hrd⟩ := hs
  subst ev
  have h63 : ∀ x : Int, IntKind.i64.wrap ((BitVec.ofInt IntKind.i64.bits x &&& BitVec.ofInt IntKind.i64.bits 63).toNat : Int) = and63 x := fun _ => rfl
  unfold af9
  simp -implicitDefEqProofs only [↓WP_seq, ↓WP_skip, ↓WP_region, ↓WP_dregion, ↓WP_cond, ↓WP_block, ↓WP_exit, ↓WP_ret, ↓OW_nil, ↓OW_cons, ↓DW_nil, ↓DW_cons, ↓XW_call, XW, exA, KO_eq, KD_eq, OptK_some, EvK_some, GW2_true, GW2_false, KS_normal, KS_ret, KS_exit, KB_normal, KB_ret, KB_exit, CP2_bool, RP_ret, RP_normal, putA_some, putA_none, ev_t, ev_c, evs, evo, wantA, initA, resA, Tr.get_set, vl, chkOk, cond_true, cond_false, Nat.add_zero, Nat.mul_one, Nat.one_mul, Nat.zero_add, Nat.zero_mul, aggOf, pInt, binA, unA, intA, beq_true, beq_false, Bool.not_true, Bool.not_false, Bool.not_eq_true, and_self, and_true, true_and, ↓reduceIte, reduceIte, Nat.reduceEqDiff, Nat.succ_ne_self, Nat.reduceAdd, Nat.reduceMul, Nat.reduceSub, Nat.reduceBEq, Nat.reduceLT, Nat.reduceLeDiff, Int.cast_ofNat_Int, Int.reduceToNat, Int.reduceLT, Int.reduceLE, Int.reduceGE, Int.reduceGT, Int.reduceEq, Int.reduceNe, Int.reduceAdd, Int.reduceSub, Int.reduceNeg, decide_true, decide_false, Int.toNat_natCast, reduceCtorEq, List.nil_append, List.cons_append, AV.boxy, AV.cells, List.length_cons, List.length_nil, Nat.beq_refl, AOp.cl, ↓OW_guard, ↓DW_guard, KDW_0, KDW_1, KDW_2, OWskip_eq, DWskip_eq, fillA, setAt, DChk, DAt, stepA, ble_dec, beq_dec, Bool.and_self, Bool.and_true, Bool.true_and, Bool.and_false, Bool.false_and, List.take_succ_cons, List.take_zero, List.drop_succ_cons, List.drop_zero, List.take_nil, List.drop_nil, List.append_nil, eqAV, eqAVL, BEq.rfl, eqA, eqD, sameS, Option.map, Option.isNone, addrA, wrap64, gt_iff_lt, ge_iff_le, Int.lt_irrefl, Int.le_refl]
  refine CW.mono c_New ?_
  rintro u H1 ⟨rfl, rfl⟩
  have hmin : (if (6 : Int) < (N : Int) then (6 : Int) else (N : Int)) = ((min N 6 : Nat) : Int) := by split <;> omega
  simp -implicitDefEqProofs only [mnL, mnA, hmin, Bool.false_eq_true, ↓WP_seq, ↓WP_skip, ↓WP_region, ↓WP_dregion, ↓WP_cond, ↓WP_block, ↓WP_exit, ↓WP_ret, ↓OW_nil, ↓OW_cons, ↓DW_nil, ↓DW_cons, ↓XW_call, XW, exA, KO_eq, KD_eq, OptK_some, EvK_some, GW2_true, GW2_false, KS_normal, KS_ret, KS_exit, KB_normal, KB_ret, KB_exit, CP2_bool, RP_ret, RP_normal, putA_some, putA_none, ev_t, ev_c, evs, evo, wantA, initA, resA, Tr.get_set, vl, chkOk, cond_true, cond_false, Nat.add_zero, Nat.mul_one, Nat.one_mul, Nat.zero_add, Nat.zero_mul, aggOf, pInt, binA, unA, intA, beq_true, beq_false, Bool.not_true, Bool.not_false, Bool.not_eq_true, and_self, and_true, true_and, ↓reduceIte, reduceIte, Nat.reduceEqDiff, Nat.succ_ne_self, Nat.reduceAdd, Nat.reduceMul, Nat.reduceSub, Nat.reduceBEq, Nat.reduceLT, Nat.reduceLeDiff, Int.cast_ofNat_Int, Int.reduceToNat, Int.reduceLT, Int.reduceLE, Int.reduceGE, Int.reduceGT, Int.reduceEq, Int.reduceNe, Int.reduceAdd, Int.reduceSub, Int.reduceNeg, decide_true, decide_false, Int.toNat_natCast, reduceCtorEq, List.nil_append, List.cons_append, AV.boxy, AV.cells, List.length_cons, List.length_nil, Nat.beq_refl, AOp.cl, ↓OW_guard, ↓DW_guard, KDW_0, KDW_1, KDW_2, OWskip_eq, DWskip_eq, fillA, setAt, DChk, DAt, stepA, ble_dec, beq_dec, Bool.and_self, Bool.and_true, Bool.true_and, Bool.and_false, Bool.false_and, List.take_succ_cons, List.take_zero, List.drop_succ_cons, List.drop_zero, List.take_nil, List.drop_nil, List.append_nil, eqAV, eqAVL, BEq.rfl, eqA, eqD, sameS, Option.map, Option.isNone, addrA, wrap64, gt_iff_lt, ge_iff_le, Int.lt_irrefl, Int.le_refl]
  have hn6 : min N 6 ≤ 6 := Nat.min_le_right ..
  have hnN : min N 6 ≤ N := Nat.min_le_left ..
  generalize min N 6 = n at *
  have ch1 := Chg.newRow H zP
  have solo0 : Solo (fun y => y < H.next) (H.newRow zP) H.next QS0 := ⟨_, _, new_P, fun y hy => ⟨by have := ch1.1; omega, by omega, by simp⟩⟩
  have I0 := Inv0
  refine WP_loop (fun m fr H' => ∃ (p : Nat) (s : QS), m + p = n ∧ Inv s ∧ tot s = p ∧ s.s = [] ∧ (∀ q, s.inn q = decide (q < p)) ∧ Chg H H' none ∧ Solo (fun y => y < H.next) H' H.next s ∧ fr.get 0 = some (.slice a s0 N cl) ∧ fr.get 1 = some (iv now) ∧ fr.get 5 = some (.ptr (some (H.next, 0))) ∧ fr.get 6 = some (.int .i64 n) ∧ fr.get 7 = some (.int .i64 p)) n ?_ ?_
  · refine ⟨0, QS0, by omega, I0, rfl, rfl, fun _ => rfl, ch1, solo0, ?_⟩
    simp -implicitDefEqProofs only [↓WP_seq, ↓WP_skip, ↓WP_region, ↓WP_dregion, ↓WP_cond, ↓WP_block, ↓WP_exit, ↓WP_ret, ↓OW_nil, ↓OW_cons, ↓DW_nil, ↓DW_cons, ↓XW_call, XW, exA, KO_eq, KD_eq, OptK_some, EvK_some, GW2_true, GW2_false, KS_normal, KS_ret, KS_exit, KB_normal, KB_ret, KB_exit, CP2_bool, RP_ret, RP_normal, putA_some, putA_none, ev_t, ev_c, evs, evo, wantA, initA, resA, Tr.get_set, vl, chkOk, cond_true, cond_false, Nat.add_zero, Nat.mul_one, Nat.one_mul, Nat.zero_add, Nat.zero_mul, aggOf, pInt, binA, unA, intA, beq_true, beq_false, Bool.not_true, Bool.not_false, Bool.not_eq_true, and_self, and_true, true_and, ↓reduceIte, reduceIte, Nat.reduceEqDiff, Nat.succ_ne_self, Nat.reduceAdd, Nat.reduceMul, Nat.reduceSub, Nat.reduceBEq, Nat.reduceLT, Nat.reduceLeDiff, Int.cast_ofNat_Int, Int.reduceToNat, Int.reduceLT, Int.reduceLE, Int.reduceGE, Int.reduceGT, Int.reduceEq, Int.reduceNe, Int.reduceAdd, Int.reduceSub, Int.reduceNeg, decide_true, decide_false, Int.toNat_natCast, reduceCtorEq, List.nil_append, List.cons_append, AV.boxy, AV.cells, List.length_cons, List.length_nil, Nat.beq_refl, AOp.cl, ↓OW_guard, ↓DW_guard, KDW_0, KDW_1, KDW_2, OWskip_eq, DWskip_eq, fillA, setAt, DChk, DAt, stepA, ble_dec, beq_dec, Bool.and_self, Bool.and_true, Bool.true_and, Bool.and_false, Bool.false_and, List.take_succ_cons, List.take_zero, List.drop_succ_cons, List.drop_zero, List.take_nil, List.drop_nil, List.append_nil, eqAV, eqAVL, BEq.rfl, eqA, eqD, sameS, Option.map, Option.isNone, addrA, wrap64, gt_iff_lt, ge_iff_le, Int.lt_irrefl, Int.le_refl]
  · rintro m fr H1 ⟨p, s, hmp, inv, ht, hss, hin, ch, solo, g0, g1, g5, g6, g7⟩
    by_cases hlt : p < n
    · have hlt' : (p : Int) < (n : Int) := by omega
      have h3 := and3 (show p < 6 by omega)
      have hw : IntKind.i64.wrap ((p : Int) + 1) = ((p + 1 : Nat) : Int) := by rw [wrap64 (by omega) (by omega)]; omega
      have hk : okR s (p : Int) ((p % 4 : Nat) : Int) = true := by
        have := hin p
        simp only [okR, Int.toNat_natCast, this]
        simp; omega
      simp -implicitDefEqProofs only [g0, g1, g5, g6, g7, hlt', h3, ↓WP_seq, ↓WP_skip, ↓WP_region, ↓WP_dregion, ↓WP_cond, ↓WP_block, ↓WP_exit, ↓WP_ret, ↓OW_nil, ↓OW_cons, ↓DW_nil, ↓DW_cons, ↓XW_call, XW, exA, KO_eq, KD_eq, OptK_some, EvK_some, GW2_true, GW2_false, KS_normal, KS_ret, KS_exit, KB_normal, KB_ret, KB_exit, CP2_bool, RP_ret, RP_normal, putA_some, putA_none, ev_t, ev_c, evs, evo, wantA, initA, resA, Tr.get_set, vl, chkOk, cond_true, cond_false, Nat.add_zero, Nat.mul_one, Nat.one_mul, Nat.zero_add, Nat.zero_mul, aggOf, pInt, binA, unA, intA, beq_true, beq_false, Bool.not_true, Bool.not_false, Bool.not_eq_true, and_self, and_true, true_and, ↓reduceIte, reduceIte, Nat.reduceEqDiff, Nat.succ_ne_self, Nat.reduceAdd, Nat.reduceMul, Nat.reduceSub, Nat.reduceBEq, Nat.reduceLT, Nat.reduceLeDiff, Int.cast_ofNat_Int, Int.reduceToNat, Int.reduceLT, Int.reduceLE, Int.reduceGE, Int.reduceGT, Int.reduceEq, Int.reduceNe, Int.reduceAdd, Int.reduceSub, Int.reduceNeg, decide_true, decide_false, Int.toNat_natCast, reduceCtorEq, List.nil_append, List.cons_append, AV.boxy, AV.cells, List.length_cons, List.length_nil, Nat.beq_refl, AOp.cl, ↓OW_guard, ↓DW_guard, KDW_0, KDW_1, KDW_2, OWskip_eq, DWskip_eq, fillA, setAt, DChk, DAt, stepA, ble_dec, beq_dec, Bool.and_self, Bool.and_true, Bool.true_and, Bool.and_false, Bool.false_and, List.take_succ_cons, List.take_zero, List.drop_succ_cons, List.drop_zero, List.take_nil, List.drop_nil, List.append_nil, eqAV, eqAVL, BEq.rfl, eqA, eqD, sameS, Option.map, Option.isNone, addrA, wrap64, gt_iff_lt, ge_iff_le, Int.lt_irrefl, Int.le_refl]
      obtain ⟨fq, D, hq, nq⟩ := solo.on
      refine CW.mono (c_Ready hq inv (p : Int) ((p % 4 : Nat) : Int)) ?_
      rintro u H2 ⟨rfl, hg⟩
      obtain ⟨solo2, k2⟩ := nq _ _ hg
      have hn2 := hg.2.1
      obtain ⟨t1, t2, t3⟩ := mReady_ok hk
      simp -implicitDefEqProofs only [g0, g1, g5, g6, g7, hlt', h3, hk, hw, Bool.false_eq_true, ↓WP_seq, ↓WP_skip, ↓WP_region, ↓WP_dregion, ↓WP_cond, ↓WP_block, ↓WP_exit, ↓WP_ret, ↓OW_nil, ↓OW_cons, ↓DW_nil, ↓DW_cons, ↓XW_call, XW, exA, KO_eq, KD_eq, OptK_some, EvK_some, GW2_true, GW2_false, KS_normal, KS_ret, KS_exit, KB_normal, KB_ret, KB_exit, CP2_bool, RP_ret, RP_normal, putA_some, putA_none, ev_t, ev_c, evs, evo, wantA, initA, resA, Tr.get_set, vl, chkOk, cond_true, cond_false, Nat.add_zero, Nat.mul_one, Nat.one_mul, Nat.zero_add, Nat.zero_mul, aggOf, pInt, binA, unA, intA, beq_true, beq_false, Bool.not_true, Bool.not_false, Bool.not_eq_true, and_self, and_true, true_and, ↓reduceIte, reduceIte, Nat.reduceEqDiff, Nat.succ_ne_self, Nat.reduceAdd, Nat.reduceMul, Nat.reduceSub, Nat.reduceBEq, Nat.reduceLT, Nat.reduceLeDiff, Int.cast_ofNat_Int, Int.reduceToNat, Int.reduceLT, Int.reduceLE, Int.reduceGE, Int.reduceGT, Int.reduceEq, Int.reduceNe, Int.reduceAdd, Int.reduceSub, Int.reduceNeg, decide_true, decide_false, Int.toNat_natCast, reduceCtorEq, List.nil_append, List.cons_append, AV.boxy, AV.cells, List.length_cons, List.length_nil, Nat.beq_refl, AOp.cl, ↓OW_guard, ↓DW_guard, KDW_0, KDW_1, KDW_2, OWskip_eq, DWskip_eq, fillA, setAt, DChk, DAt, stepA, ble_dec, beq_dec, Bool.and_self, Bool.and_true, Bool.true_and, Bool.and_false, Bool.false_and, List.take_succ_cons, List.take_zero, List.drop_succ_cons, List.drop_zero, List.take_nil, List.drop_nil, List.append_nil, eqAV, eqAVL, BEq.rfl, eqA, eqD, sameS, Option.map, Option.isNone, addrA, wrap64, gt_iff_lt, ge_iff_le, Int.lt_irrefl, Int.le_refl]
      refine ⟨m - 1, by omega, p + 1, _, by omega, inv.mReady _ _, by omega, by rw [t2, hss], fun z => ?_, ⟨by have := ch.1; omega, fun y hy => ?_⟩, solo2, rfl⟩
      · rw [t3]
        by_cases e : z = p
        · subst e; rw [upd_same]; simp
        · rw [upd_ne e, hin z]
          by_cases e2 : z < p
          · simp [e2]; omega
          · have : ¬ z < p + 1 := by omega
            simp [e2, this]
      · have e : H2.get y = H.get y := by rw [k2 y hy, ch.keep hy (by simp)]
        exact ⟨.inl e, fun _ => e⟩
    · have hlt' : ¬ (p : Int) < (n : Int) := by omega
      obtain rfl : p = n := by omega
      simp -implicitDefEqProofs only [g0, g1, g5, g6, g7, hlt', Bool.false_eq_true, ↓WP_seq, ↓WP_skip, ↓WP_region, ↓WP_dregion, ↓WP_cond, ↓WP_block, ↓WP_exit, ↓WP_ret, ↓OW_nil, ↓OW_cons, ↓DW_nil, ↓DW_cons, ↓XW_call, XW, exA, KO_eq, KD_eq, OptK_some, EvK_some, GW2_true, GW2_false, KS_normal, KS_ret, KS_exit, KB_normal, KB_ret, KB_exit, CP2_bool, RP_ret, RP_normal, putA_some, putA_none, ev_t, ev_c, evs, evo, wantA, initA, resA, Tr.get_set, vl, chkOk, cond_true, cond_false, Nat.add_zero, Nat.mul_one, Nat.one_mul, Nat.zero_add, Nat.zero_mul, aggOf, pInt, binA, unA, intA, beq_true, beq_false, Bool.not_true, Bool.not_false, Bool.not_eq_true, and_self, and_true, true_and, ↓reduceIte, reduceIte, Nat.reduceEqDiff, Nat.succ_ne_self, Nat.reduceAdd, Nat.reduceMul, Nat.reduceSub, Nat.reduceBEq, Nat.reduceLT, Nat.reduceLeDiff, Int.cast_ofNat_Int, Int.reduceToNat, Int.reduceLT, Int.reduceLE, Int.reduceGE, Int.reduceGT, Int.reduceEq, Int.reduceNe, Int.reduceAdd, Int.reduceSub, Int.reduceNeg, decide_true, decide_false, Int.toNat_natCast, reduceCtorEq, List.nil_append, List.cons_append, AV.boxy, AV.cells, List.length_cons, List.length_nil, Nat.beq_refl, AOp.cl, ↓OW_guard, ↓DW_guard, KDW_0, KDW_1, KDW_2, OWskip_eq, DWskip_eq, fillA, setAt, DChk, DAt, stepA, ble_dec, beq_dec, Bool.and_self, Bool.and_true, Bool.true_and, Bool.and_false, Bool.false_and, List.take_succ_cons, List.take_zero, List.drop_succ_cons, List.drop_zero, List.take_nil, List.drop_nil, List.append_nil, eqAV, eqAVL, BEq.rfl, eqA, eqD, sameS, Option.map, Option.isNone, addrA, wrap64, gt_iff_lt, ge_iff_le, Int.lt_irrefl, Int.le_refl]
      have soloM : Solo (fun y => y < H.next ∨ y = H1.next) (H1.new (.map [] 0)) H.next s := solo.step (by simp [next_new]) (fun y hy _ => by rw [get_new, if_neg (by omega)]) fun y hy => by
        have : (H1.new (.map [] 0)).next = H1.next + 1 := rfl
        have := ch.1
        rcases hy with hy | rfl
        · exact ⟨by omega, .inl hy⟩
        · exact ⟨by omega, .inr (Nat.le_refl _)⟩
      have chM : Chg H (H1.new (.map [] 0)) none := by
        refine ⟨by have := ch.1; simp [next_new]; omega, fun y hy => ?_⟩
        have e : (H1.new (.map [] 0)).get y = H.get y := by rw [get_new, if_neg (by have := ch.1; omega), ch.keep hy (by simp)]
        exact ⟨.inl e, fun _ => e⟩
      have hm0 : (H1.new (.map [] 0)).get H1.next = .map (mapE 0 []) 0 := by rw [get_new, if_pos rfl]; rfl
      have hH1 := ch.1
      generalize H1.next = mb at *
      generalize (H1.new (.map [] 0)) = HM at *
      refine WP_loop (fun m fr H' => ∃ (i : Nat) (s : QS), m + i = p ∧ Inv s ∧ tot s + i = p ∧ s.s.length = i ∧ Chg H H' none ∧ Solo (fun y => y < H.next ∨ y = mb) H' H.next s ∧ H'.get mb = .map (mapE 0 s.s) i ∧ fr.get 0 = some (.slice a s0 N cl) ∧ fr.get 1 = some (iv now) ∧ fr.get 5 = some (.ptr (some (H.next, 0))) ∧ fr.get 6 = some (.int .i64 p) ∧ fr.get 8 = some (.map (some mb)) ∧ fr.get 9 = some (.int .i64 (s.s.filter (due (and63 now))).length) ∧ fr.get 10 = some (.int .i64 i)) p ?_ ?_
      · refine ⟨0, s, by omega, inv, by omega, by rw [hss]; rfl, chM, soloM, by rw [hss]; exact hm0, ?_⟩
        simp -implicitDefEqProofs only [hss, List.filter_nil, ↓WP_seq, ↓WP_skip, ↓WP_region, ↓WP_dregion, ↓WP_cond, ↓WP_block, ↓WP_exit, ↓WP_ret, ↓OW_nil, ↓OW_cons, ↓DW_nil, ↓DW_cons, ↓XW_call, XW, exA, KO_eq, KD_eq, OptK_some, EvK_some, GW2_true, GW2_false, KS_normal, KS_ret, KS_exit, KB_normal, KB_ret, KB_exit, CP2_bool, RP_ret, RP_normal, putA_some, putA_none, ev_t, ev_c, evs, evo, wantA, initA, resA, Tr.get_set, vl, chkOk, cond_true, cond_false, Nat.add_zero, Nat.mul_one, Nat.one_mul, Nat.zero_add, Nat.zero_mul, aggOf, pInt, binA, unA, intA, beq_true, beq_false, Bool.not_true, Bool.not_false, Bool.not_eq_true, and_self, and_true, true_and, ↓reduceIte, reduceIte, Nat.reduceEqDiff, Nat.succ_ne_self, Nat.reduceAdd, Nat.reduceMul, Nat.reduceSub, Nat.reduceBEq, Nat.reduceLT, Nat.reduceLeDiff, Int.cast_ofNat_Int, Int.reduceToNat, Int.reduceLT, Int.reduceLE, Int.reduceGE, Int.reduceGT, Int.reduceEq, Int.reduceNe, Int.reduceAdd, Int.reduceSub, Int.reduceNeg, decide_true, decide_false, Int.toNat_natCast, reduceCtorEq, List.nil_append, List.cons_append, AV.boxy, AV.cells, List.length_cons, List.length_nil, Nat.beq_refl, AOp.cl, ↓OW_guard, ↓DW_guard, KDW_0, KDW_1, KDW_2, OWskip_eq, DWskip_eq, fillA, setAt, DChk, DAt, stepA, ble_dec, beq_dec, Bool.and_self, Bool.and_true, Bool.true_and, Bool.and_false, Bool.false_and, List.take_succ_cons, List.take_zero, List.drop_succ_cons, List.drop_zero, List.take_nil, List.drop_nil, List.append_nil, eqAV, eqAVL, BEq.rfl, eqA, eqD, sameS, Option.map, Option.isNone, addrA, wrap64, gt_iff_lt, ge_iff_le, Int.lt_irrefl, Int.le_refl]
        exact ⟨g0, g1, g5, g6⟩
      · rintro m2 fr2 H2 ⟨i, s, hmi, inv, htt, hsl, ch2, solo2, hmap, f0, f1, f5, f6, f8, f9, f10⟩
        by_cases hlt2 : i < p
        · have hlt2' : (i : Int) < (p : Int) := by omega
          have hi0 : (0 : Int) ≤ (i : Int) := by omega
          have hiN : (i : Int) < (N : Int) := by omega
          obtain ⟨pp, hf⟩ := top_of_tot (s := s) (by omega)
          obtain ⟨ll, tt, htop, hl4, er⟩ := fst1_some hf
          have hpp6 := inv.inn pp (inv.memr (i := ll) (by omega) (by rw [er]; exact List.mem_cons_self ..))
          have hpn : ¬ (pp : Int) < 0 := by omega
          have hw : IntKind.i64.wrap ((i : Int) + 1) = ((i + 1 : Nat) : Int) := by rw [wrap64 (by omega) (by omega)]; omega
          obtain ⟨y, o, ea, e4⟩ := hrd (by omega)
          subst ea
          have hfl : (s.s.filter (due (and63 now))).length ≤ 6 := Nat.le_trans (List.length_filter_le ..) (by omega)
          have hw9 : IntKind.i64.wrap (((s.s.filter (due (and63 now))).length : Int) + 1) = (((s.s.filter (due (and63 now))).length + 1 : Nat) : Int) := by rw [wrap64 (by omega) (by omega)]; omega
          obtain ⟨fq, D, hq, nq⟩ := solo2.on
          simp -implicitDefEqProofs only [f0, f1, f5, f6, f8, f9, f10, hlt2', ↓WP_seq, ↓WP_skip, ↓WP_region, ↓WP_dregion, ↓WP_cond, ↓WP_block, ↓WP_exit, ↓WP_ret, ↓OW_nil, ↓OW_cons, ↓DW_nil, ↓DW_cons, ↓XW_call, XW, exA, KO_eq, KD_eq, OptK_some, EvK_some, GW2_true, GW2_false, KS_normal, KS_ret, KS_exit, KB_normal, KB_ret, KB_exit, CP2_bool, RP_ret, RP_normal, putA_some, putA_none, ev_t, ev_c, evs, evo, wantA, initA, resA, Tr.get_set, vl, chkOk, cond_true, cond_false, Nat.add_zero, Nat.mul_one, Nat.one_mul, Nat.zero_add, Nat.zero_mul, aggOf, pInt, binA, unA, intA, beq_true, beq_false, Bool.not_true, Bool.not_false, Bool.not_eq_true, and_self, and_true, true_and, ↓reduceIte, reduceIte, Nat.reduceEqDiff, Nat.succ_ne_self, Nat.reduceAdd, Nat.reduceMul, Nat.reduceSub, Nat.reduceBEq, Nat.reduceLT, Nat.reduceLeDiff, Int.cast_ofNat_Int, Int.reduceToNat, Int.reduceLT, Int.reduceLE, Int.reduceGE, Int.reduceGT, Int.reduceEq, Int.reduceNe, Int.reduceAdd, Int.reduceSub, Int.reduceNeg, decide_true, decide_false, Int.toNat_natCast, reduceCtorEq, List.nil_append, List.cons_append, AV.boxy, AV.cells, List.length_cons, List.length_nil, Nat.beq_refl, AOp.cl, ↓OW_guard, ↓DW_guard, KDW_0, KDW_1, KDW_2, OWskip_eq, DWskip_eq, fillA, setAt, DChk, DAt, stepA, ble_dec, beq_dec, Bool.and_self, Bool.and_true, Bool.true_and, Bool.and_false, Bool.false_and, List.take_succ_cons, List.take_zero, List.drop_succ_cons, List.drop_zero, List.take_nil, List.drop_nil, List.append_nil, eqAV, eqAVL, BEq.rfl, eqA, eqD, sameS, Option.map, Option.isNone, addrA, wrap64, gt_iff_lt, ge_iff_le, Int.lt_irrefl, Int.le_refl]
          refine CW.mono (c_First hq.qlP) ?_
          rintro u H3 ⟨rfl, rfl⟩
          have ld : loadA H3 y (o + i) 1 = some [.int .i64 (f i)] := by
            have r : Rd H3 y o ((List.range N).map fun j => iv (f j)) := Rd.keep e4 ch2.1 (ch2.keep e4.1 (by simp))
            exact r.one (by rw [List.getElem?_map, List.getElem?_range (by omega)]; rfl)
          rw [hf]
          simp -implicitDefEqProofs only [f0, f1, f5, f6, f8, f9, f10, hlt2', hi0, hiN, iv, optI, ld, h63, hpn, ↓WP_seq, ↓WP_skip, ↓WP_region, ↓WP_dregion, ↓WP_cond, ↓WP_block, ↓WP_exit, ↓WP_ret, ↓OW_nil, ↓OW_cons, ↓DW_nil, ↓DW_cons, ↓XW_call, XW, exA, KO_eq, KD_eq, OptK_some, EvK_some, GW2_true, GW2_false, KS_normal, KS_ret, KS_exit, KB_normal, KB_ret, KB_exit, CP2_bool, RP_ret, RP_normal, putA_some, putA_none, ev_t, ev_c, evs, evo, wantA, initA, resA, Tr.get_set, vl, chkOk, cond_true, cond_false, Nat.add_zero, Nat.mul_one, Nat.one_mul, Nat.zero_add, Nat.zero_mul, aggOf, pInt, binA, unA, intA, beq_true, beq_false, Bool.not_true, Bool.not_false, Bool.not_eq_true, and_self, and_true, true_and, ↓reduceIte, reduceIte, Nat.reduceEqDiff, Nat.succ_ne_self, Nat.reduceAdd, Nat.reduceMul, Nat.reduceSub, Nat.reduceBEq, Nat.reduceLT, Nat.reduceLeDiff, Int.cast_ofNat_Int, Int.reduceToNat, Int.reduceLT, Int.reduceLE, Int.reduceGE, Int.reduceGT, Int.reduceEq, Int.reduceNe, Int.reduceAdd, Int.reduceSub, Int.reduceNeg, decide_true, decide_false, Int.toNat_natCast, reduceCtorEq, List.nil_append, List.cons_append, AV.boxy, AV.cells, List.length_cons, List.length_nil, Nat.beq_refl, AOp.cl, ↓OW_guard, ↓DW_guard, KDW_0, KDW_1, KDW_2, OWskip_eq, DWskip_eq, fillA, setAt, DChk, DAt, stepA, ble_dec, beq_dec, Bool.and_self, Bool.and_true, Bool.true_and, Bool.and_false, Bool.false_and, List.take_succ_cons, List.take_zero, List.drop_succ_cons, List.drop_zero, List.take_nil, List.drop_nil, List.append_nil, eqAV, eqAVL, BEq.rfl, eqA, eqD, sameS, Option.map, Option.isNone, addrA, wrap64, gt_iff_lt, ge_iff_le, Int.lt_irrefl, Int.le_refl]
          refine CW.mono (c_Sleep hq inv (and63 (f i))) ?_
          rintro u H4 ⟨rfl, hg⟩
          obtain ⟨solo4, k4⟩ := nq _ _ hg
          have hn4 := hg.2.1
          obtain ⟨t1, t2⟩ := mSleep_ok (u := and63 (f i)) hf
          have hmap4 : H4.get mb = .map (mapE 0 s.s) i := by rw [k4 _ (.inr rfl), hmap]
          have hfind := find_none s.s 0 0 pp (notin inv hf)
          have hl2 := ch2.1
          have solo5 : Solo (fun y => y < H.next ∨ y = mb) (H4.put mb (.map (mapE 0 s.s ++ [(.int .i64 pp, .int .i64 (and63 (f i)), i)]) (i + 1))) H.next (mSleep s (and63 (f i))) := by
            have hK : ∀ y, (y < H.next ∨ y = mb) → y < H4.next := by
              obtain ⟨fx, Dx, -, hx⟩ := solo4
              exact fun y hy => (hx y hy).1
            refine solo4.step (Nat.le_refl _) (fun y hy hn => ?_) fun y hy => ⟨hK y hy, .inl hy⟩
            rw [get_put, if_neg (fun e => hn (.inr e.symm))]
          have ch5 : Chg H (H4.put mb (.map (mapE 0 s.s ++ [(.int .i64 pp, .int .i64 (and63 (f i)), i)]) (i + 1))) none := by
            refine ⟨by rw [next_put]; omega, fun y hy => ?_⟩
            have e : (H4.put mb (.map (mapE 0 s.s ++ [(.int .i64 pp, .int .i64 (and63 (f i)), i)]) (i + 1))).get y = H.get y := by rw [get_put, if_neg (by omega), k4 _ (.inl hy), ch2.keep hy (by simp)]
            exact ⟨.inl e, fun _ => e⟩
          have hmap5 : (H4.put mb (.map (mapE 0 s.s ++ [(.int .i64 pp, .int .i64 (and63 (f i)), i)]) (i + 1))).get mb = .map (mapE 0 (mSleep s (and63 (f i))).s) (i + 1) := by
            rw [get_put, if_pos rfl, t2, mapE_append, Nat.zero_add, hsl]; rfl
          by_cases hdue : and63 (f i) ≤ and63 now
          · have hd : due (and63 now) (pp, and63 (f i)) = true := by simp [due, hdue]
            have hfc : ((mSleep s (and63 (f i))).s.filter (due (and63 now))).length = (s.s.filter (due (and63 now))).length + 1 := by
              rw [t2, List.filter_append]; simp [hd]
            simp -implicitDefEqProofs only [f0, f1, f5, f6, f8, f9, f10, iv, Option.isSome, hf, h63, hmap4, hfind, hdue, hw, hw9, Bool.false_eq_true, ↓WP_seq, ↓WP_skip, ↓WP_region, ↓WP_dregion, ↓WP_cond, ↓WP_block, ↓WP_exit, ↓WP_ret, ↓OW_nil, ↓OW_cons, ↓DW_nil, ↓DW_cons, ↓XW_call, XW, exA, KO_eq, KD_eq, OptK_some, EvK_some, GW2_true, GW2_false, KS_normal, KS_ret, KS_exit, KB_normal, KB_ret, KB_exit, CP2_bool, RP_ret, RP_normal, putA_some, putA_none, ev_t, ev_c, evs, evo, wantA, initA, resA, Tr.get_set, vl, chkOk, cond_true, cond_false, Nat.add_zero, Nat.mul_one, Nat.one_mul, Nat.zero_add, Nat.zero_mul, aggOf, pInt, binA, unA, intA, beq_true, beq_false, Bool.not_true, Bool.not_false, Bool.not_eq_true, and_self, and_true, true_and, ↓reduceIte, reduceIte, Nat.reduceEqDiff, Nat.succ_ne_self, Nat.reduceAdd, Nat.reduceMul, Nat.reduceSub, Nat.reduceBEq, Nat.reduceLT, Nat.reduceLeDiff, Int.cast_ofNat_Int, Int.reduceToNat, Int.reduceLT, Int.reduceLE, Int.reduceGE, Int.reduceGT, Int.reduceEq, Int.reduceNe, Int.reduceAdd, Int.reduceSub, Int.reduceNeg, decide_true, decide_false, Int.toNat_natCast, reduceCtorEq, List.nil_append, List.cons_append, AV.boxy, AV.cells, List.length_cons, List.length_nil, Nat.beq_refl, AOp.cl, ↓OW_guard, ↓DW_guard, KDW_0, KDW_1, KDW_2, OWskip_eq, DWskip_eq, fillA, setAt, DChk, DAt, stepA, ble_dec, beq_dec, Bool.and_self, Bool.and_true, Bool.true_and, Bool.and_false, Bool.false_and, List.take_succ_cons, List.take_zero, List.drop_succ_cons, List.drop_zero, List.take_nil, List.drop_nil, List.append_nil, eqAV, eqAVL, BEq.rfl, eqA, eqD, sameS, Option.map, Option.isNone, addrA, wrap64, gt_iff_lt, ge_iff_le, Int.lt_irrefl, Int.le_refl]
            refine ⟨m2 - 1, by omega, i + 1, _, by omega, inv.mSleep _, by omega, by rw [t2]; simp [hsl], ch5, solo5, hmap5, ?_⟩
            simp only [hfc, iv, and_self]
          · have hd : due (and63 now) (pp, and63 (f i)) = false := by simp [due, hdue]
            have hfc : ((mSleep s (and63 (f i))).s.filter (due (and63 now))).length = (s.s.filter (due (and63 now))).length := by
              rw [t2, List.filter_append]; simp [hd]
            simp -implicitDefEqProofs only [f0, f1, f5, f6, f8, f9, f10, iv, Option.isSome, hf, h63, hmap4, hfind, hdue, hw, hw9, Bool.false_eq_true, ↓WP_seq, ↓WP_skip, ↓WP_region, ↓WP_dregion, ↓WP_cond, ↓WP_block, ↓WP_exit, ↓WP_ret, ↓OW_nil, ↓OW_cons, ↓DW_nil, ↓DW_cons, ↓XW_call, XW, exA, KO_eq, KD_eq, OptK_some, EvK_some, GW2_true, GW2_false, KS_normal, KS_ret, KS_exit, KB_normal, KB_ret, KB_exit, CP2_bool, RP_ret, RP_normal, putA_some, putA_none, ev_t, ev_c, evs, evo, wantA, initA, resA, Tr.get_set, vl, chkOk, cond_true, cond_false, Nat.add_zero, Nat.mul_one, Nat.one_mul, Nat.zero_add, Nat.zero_mul, aggOf, pInt, binA, unA, intA, beq_true, beq_false, Bool.not_true, Bool.not_false, Bool.not_eq_true, and_self, and_true, true_and, ↓reduceIte, reduceIte, Nat.reduceEqDiff, Nat.succ_ne_self, Nat.reduceAdd, Nat.reduceMul, Nat.reduceSub, Nat.reduceBEq, Nat.reduceLT, Nat.reduceLeDiff, Int.cast_ofNat_Int, Int.reduceToNat, Int.reduceLT, Int.reduceLE, Int.reduceGE, Int.reduceGT, Int.reduceEq, Int.reduceNe, Int.reduceAdd, Int.reduceSub, Int.reduceNeg, decide_true, decide_false, Int.toNat_natCast, reduceCtorEq, List.nil_append, List.cons_append, AV.boxy, AV.cells, List.length_cons, List.length_nil, Nat.beq_refl, AOp.cl, ↓OW_guard, ↓DW_guard, KDW_0, KDW_1, KDW_2, OWskip_eq, DWskip_eq, fillA, setAt, DChk, DAt, stepA, ble_dec, beq_dec, Bool.and_self, Bool.and_true, Bool.true_and, Bool.and_false, Bool.false_and, List.take_succ_cons, List.take_zero, List.drop_succ_cons, List.drop_zero, List.take_nil, List.drop_nil, List.append_nil, eqAV, eqAVL, BEq.rfl, eqA, eqD, sameS, Option.map, Option.isNone, addrA, wrap64, gt_iff_lt, ge_iff_le, Int.lt_irrefl, Int.le_refl]
            refine ⟨m2 - 1, by omega, i + 1, _, by omega, inv.mSleep _, by omega, by rw [t2]; simp [hsl], ch5, solo5, hmap5, ?_⟩
            simp only [hfc, iv, and_self]
        · have hlt2' : ¬ (i : Int) < (p : Int) := by omega
          have hip : i = p := by omega
          subst hip
          obtain ⟨fq, D, hq, nq⟩ := solo2.on
          simp -implicitDefEqProofs only [f0, f1, f5, f6, f8, f9, f10, hlt2', iv, h63, Bool.false_eq_true, ↓WP_seq, ↓WP_skip, ↓WP_region, ↓WP_dregion, ↓WP_cond, ↓WP_block, ↓WP_exit, ↓WP_ret, ↓OW_nil, ↓OW_cons, ↓DW_nil, ↓DW_cons, ↓XW_call, XW, exA, KO_eq, KD_eq, OptK_some, EvK_some, GW2_true, GW2_false, KS_normal, KS_ret, KS_exit, KB_normal, KB_ret, KB_exit, CP2_bool, RP_ret, RP_normal, putA_some, putA_none, ev_t, ev_c, evs, evo, wantA, initA, resA, Tr.get_set, vl, chkOk, cond_true, cond_false, Nat.add_zero, Nat.mul_one, Nat.one_mul, Nat.zero_add, Nat.zero_mul, aggOf, pInt, binA, unA, intA, beq_true, beq_false, Bool.not_true, Bool.not_false, Bool.not_eq_true, and_self, and_true, true_and, ↓reduceIte, reduceIte, Nat.reduceEqDiff, Nat.succ_ne_self, Nat.reduceAdd, Nat.reduceMul, Nat.reduceSub, Nat.reduceBEq, Nat.reduceLT, Nat.reduceLeDiff, Int.cast_ofNat_Int, Int.reduceToNat, Int.reduceLT, Int.reduceLE, Int.reduceGE, Int.reduceGT, Int.reduceEq, Int.reduceNe, Int.reduceAdd, Int.reduceSub, Int.reduceNeg, decide_true, decide_false, Int.toNat_natCast, reduceCtorEq, List.nil_append, List.cons_append, AV.boxy, AV.cells, List.length_cons, List.length_nil, Nat.beq_refl, AOp.cl, ↓OW_guard, ↓DW_guard, KDW_0, KDW_1, KDW_2, OWskip_eq, DWskip_eq, fillA, setAt, DChk, DAt, stepA, ble_dec, beq_dec, Bool.and_self, Bool.and_true, Bool.true_and, Bool.and_false, Bool.false_and, List.take_succ_cons, List.take_zero, List.drop_succ_cons, List.drop_zero, List.take_nil, List.drop_nil, List.append_nil, eqAV, eqAVL, BEq.rfl, eqA, eqD, sameS, Option.map, Option.isNone, addrA, wrap64, gt_iff_lt, ge_iff_le, Int.lt_irrefl, Int.le_refl]
          refine CW.mono (c_Wake hq inv (and63 now)) ?_
          rintro u H3 ⟨⟨P3, pf3, sl3⟩, hg⟩
          obtain ⟨solo3, k3⟩ := nq _ _ hg
          have hmap3 : H3.get mb = .map (mapE 0 s.s) i := by rw [k3 _ (.inr rfl), hmap]
          obtain ⟨av, sv, kv, eu⟩ := sl3.form
          subst eu
          have hdl : (vWake s (and63 now)).length = (s.s.filter (due (and63 now))).length := by simp [vWake, wkd, isort_len]
          have hlen6 : (vWake s (and63 now)).length ≤ 6 := by
            rw [hdl]; exact Nat.le_trans (List.length_filter_le ..) inv.lens
          simp -implicitDefEqProofs only [f0, f1, f5, f6, f8, f9, f10, iv, h63, ↓WP_seq, ↓WP_skip, ↓WP_region, ↓WP_dregion, ↓WP_cond, ↓WP_block, ↓WP_exit, ↓WP_ret, ↓OW_nil, ↓OW_cons, ↓DW_nil, ↓DW_cons, ↓XW_call, XW, exA, KO_eq, KD_eq, OptK_some, EvK_some, GW2_true, GW2_false, KS_normal, KS_ret, KS_exit, KB_normal, KB_ret, KB_exit, CP2_bool, RP_ret, RP_normal, putA_some, putA_none, ev_t, ev_c, evs, evo, wantA, initA, resA, Tr.get_set, vl, chkOk, cond_true, cond_false, Nat.add_zero, Nat.mul_one, Nat.one_mul, Nat.zero_add, Nat.zero_mul, aggOf, pInt, binA, unA, intA, beq_true, beq_false, Bool.not_true, Bool.not_false, Bool.not_eq_true, and_self, and_true, true_and, ↓reduceIte, reduceIte, Nat.reduceEqDiff, Nat.succ_ne_self, Nat.reduceAdd, Nat.reduceMul, Nat.reduceSub, Nat.reduceBEq, Nat.reduceLT, Nat.reduceLeDiff, Int.cast_ofNat_Int, Int.reduceToNat, Int.reduceLT, Int.reduceLE, Int.reduceGE, Int.reduceGT, Int.reduceEq, Int.reduceNe, Int.reduceAdd, Int.reduceSub, Int.reduceNeg, decide_true, decide_false, Int.toNat_natCast, reduceCtorEq, List.nil_append, List.cons_append, AV.boxy, AV.cells, List.length_cons, List.length_nil, Nat.beq_refl, AOp.cl, ↓OW_guard, ↓DW_guard, KDW_0, KDW_1, KDW_2, OWskip_eq, DWskip_eq, fillA, setAt, DChk, DAt, stepA, ble_dec, beq_dec, Bool.and_self, Bool.and_true, Bool.true_and, Bool.and_false, Bool.false_and, List.take_succ_cons, List.take_zero, List.drop_succ_cons, List.drop_zero, List.take_nil, List.drop_nil, List.append_nil, eqAV, eqAVL, BEq.rfl, eqA, eqD, sameS, Option.map, Option.isNone, addrA, wrap64, gt_iff_lt, ge_iff_le, Int.lt_irrefl, Int.le_refl]
          have hsrt : Srt (wkd s (and63 now)) := isort_srt _
          have hmem : ∀ x, x ∈ wkd s (and63 now) → x ∈ s.s ∧ x.2 ≤ and63 now := fun x hx => by
            have := List.mem_filter.1 (isort_mem hx)
            exact ⟨this.1, by simpa [due] using this.2⟩
          have hvl : (vWake s (and63 now)).length = (wkd s (and63 now)).length := by simp [vWake]
          have hfd : ∀ x, x ∈ wkd s (and63 now) → ∃ j k, findA (.sc .int) (.int .i64 x.1) (mapE 0 s.s) 0 = some (some (j, .int .i64 x.2, k)) := fun x hx =>
            find_some s.s 0 0 x (hmem x hx).1 fun y hy e => uniq_of inv (hmem x hx).1 hy e
          refine WP_loop (fun m fr H' => ∃ j : Nat, m + j = (vWake s (and63 now)).length ∧ H' = H3 ∧ fr.get 1 = some (.int .i64 now) ∧ fr.get 5 = some (.ptr (some (H.next, 0))) ∧ fr.get 8 = some (.map (some mb)) ∧ fr.get 9 = some (.int .i64 (s.s.filter (due (and63 now))).length) ∧ fr.get 13 = some (.slice av sv (vWake s (and63 now)).length kv) ∧ fr.get 67 = some (.slice av sv (vWake s (and63 now)).length kv) ∧ fr.get 68 = some (.int .i64 (vWake s (and63 now)).length) ∧ fr.get 69 = some (.int .i64 j)) (vWake s (and63 now)).length ?_ ?_
          · refine ⟨0, by omega, rfl, ?_⟩
            simp -implicitDefEqProofs only [f0, f1, f5, f6, f8, f9, f10, iv, ↓WP_seq, ↓WP_skip, ↓WP_region, ↓WP_dregion, ↓WP_cond, ↓WP_block, ↓WP_exit, ↓WP_ret, ↓OW_nil, ↓OW_cons, ↓DW_nil, ↓DW_cons, ↓XW_call, XW, exA, KO_eq, KD_eq, OptK_some, EvK_some, GW2_true, GW2_false, KS_normal, KS_ret, KS_exit, KB_normal, KB_ret, KB_exit, CP2_bool, RP_ret, RP_normal, putA_some, putA_none, ev_t, ev_c, evs, evo, wantA, initA, resA, Tr.get_set, vl, chkOk, cond_true, cond_false, Nat.add_zero, Nat.mul_one, Nat.one_mul, Nat.zero_add, Nat.zero_mul, aggOf, pInt, binA, unA, intA, beq_true, beq_false, Bool.not_true, Bool.not_false, Bool.not_eq_true, and_self, and_true, true_and, ↓reduceIte, reduceIte, Nat.reduceEqDiff, Nat.succ_ne_self, Nat.reduceAdd, Nat.reduceMul, Nat.reduceSub, Nat.reduceBEq, Nat.reduceLT, Nat.reduceLeDiff, Int.cast_ofNat_Int, Int.reduceToNat, Int.reduceLT, Int.reduceLE, Int.reduceGE, Int.reduceGT, Int.reduceEq, Int.reduceNe, Int.reduceAdd, Int.reduceSub, Int.reduceNeg, decide_true, decide_false, Int.toNat_natCast, reduceCtorEq, List.nil_append, List.cons_append, AV.boxy, AV.cells, List.length_cons, List.length_nil, Nat.beq_refl, AOp.cl, ↓OW_guard, ↓DW_guard, KDW_0, KDW_1, KDW_2, OWskip_eq, DWskip_eq, fillA, setAt, DChk, DAt, stepA, ble_dec, beq_dec, Bool.and_self, Bool.and_true, Bool.true_and, Bool.and_false, Bool.false_and, List.take_succ_cons, List.take_zero, List.drop_succ_cons, List.drop_zero, List.take_nil, List.drop_nil, List.append_nil, eqAV, eqAVL, BEq.rfl, eqA, eqD, sameS, Option.map, Option.isNone, addrA, wrap64, gt_iff_lt, ge_iff_le, Int.lt_irrefl, Int.le_refl]
          · rintro m3 fr3 H4 ⟨j, hmj, rfl, x1, x5, x8, x9, x13, x67, x68, x69⟩
            by_cases hj : j < (vWake s (and63 now)).length
            · have hj' : (j : Int) < ((vWake s (and63 now)).length : Int) := by omega
              have hj0 : (0 : Int) ≤ (j : Int) := by omega
              have hw : IntKind.i64.wrap ((j : Int) + 1) = ((j + 1 : Nat) : Int) := by rw [wrap64 (by omega) (by omega)]; omega
              rcases sl3 with ⟨-, -, e3⟩ | ⟨yb, o, k, e1, -, -, rr, -⟩
              · omega
              injection e1 with ea _ _ _
              subst ea
              have at_ : ∀ j', j' < (vWake s (and63 now)).length → ∃ x, (wkd s (and63 now))[j']? = some x ∧ loadA H4 yb (o + j') 1 = some [.int .i64 x.1] := fun j' hj' => by
                have hj2 : j' < (wkd s (and63 now)).length := by omega
                refine ⟨(wkd s (and63 now))[j'], List.getElem?_eq_getElem hj2, ?_⟩
                have := rr.one (nats_get hj')
                rw [this]
                simp [vWake]
              obtain ⟨x, hx, ldx⟩ := at_ j hj
              have hxm : x ∈ wkd s (and63 now) := List.mem_of_getElem? hx
              obtain ⟨jx, kx, hfx⟩ := hfd x hxm
              have hle : ¬ and63 now < x.2 := by have := (hmem x hxm).2; omega
              by_cases hj1 : 0 < j
              · have hj1' : (0 : Int) < (j : Int) := by omega
                obtain ⟨y, hy, ldy⟩ := at_ (j - 1) (by omega)
                have hym : y ∈ wkd s (and63 now) := List.mem_of_getElem? hy
                obtain ⟨jy, ky, hfy⟩ := hfd y hym
                have hyx : ¬ x.2 < y.2 := by
                  have := hsrt.next hy (by rw [show j - 1 + 1 = j by omega]; exact hx)
                  omega
                have hw1 : IntKind.i64.wrap ((j : Int) - 1) = ((j - 1 : Nat) : Int) := by rw [wrap64 (by omega) (by omega)]; omega
                have hjm : ((j - 1 : Nat) : Int) < ((vWake s (and63 now)).length : Int) := by omega
                have hjm0 : (0 : Int) ≤ ((j - 1 : Nat) : Int) := by omega
                simp -implicitDefEqProofs only [x1, x5, x8, x9, x13, x67, x68, x69, hj', hj0, ldx, hmap3, hfx, h63, hle, hj1', hw1, hjm, hjm0, ldy, hfy, hyx, hw, iv, Bool.false_eq_true, ↓WP_seq, ↓WP_skip, ↓WP_region, ↓WP_dregion, ↓WP_cond, ↓WP_block, ↓WP_exit, ↓WP_ret, ↓OW_nil, ↓OW_cons, ↓DW_nil, ↓DW_cons, ↓XW_call, XW, exA, KO_eq, KD_eq, OptK_some, EvK_some, GW2_true, GW2_false, KS_normal, KS_ret, KS_exit, KB_normal, KB_ret, KB_exit, CP2_bool, RP_ret, RP_normal, putA_some, putA_none, ev_t, ev_c, evs, evo, wantA, initA, resA, Tr.get_set, vl, chkOk, cond_true, cond_false, Nat.add_zero, Nat.mul_one, Nat.one_mul, Nat.zero_add, Nat.zero_mul, aggOf, pInt, binA, unA, intA, beq_true, beq_false, Bool.not_true, Bool.not_false, Bool.not_eq_true, and_self, and_true, true_and, ↓reduceIte, reduceIte, Nat.reduceEqDiff, Nat.succ_ne_self, Nat.reduceAdd, Nat.reduceMul, Nat.reduceSub, Nat.reduceBEq, Nat.reduceLT, Nat.reduceLeDiff, Int.cast_ofNat_Int, Int.reduceToNat, Int.reduceLT, Int.reduceLE, Int.reduceGE, Int.reduceGT, Int.reduceEq, Int.reduceNe, Int.reduceAdd, Int.reduceSub, Int.reduceNeg, decide_true, decide_false, Int.toNat_natCast, reduceCtorEq, List.nil_append, List.cons_append, AV.boxy, AV.cells, List.length_cons, List.length_nil, Nat.beq_refl, AOp.cl, ↓OW_guard, ↓DW_guard, KDW_0, KDW_1, KDW_2, OWskip_eq, DWskip_eq, fillA, setAt, DChk, DAt, stepA, ble_dec, beq_dec, Bool.and_self, Bool.and_true, Bool.true_and, Bool.and_false, Bool.false_and, List.take_succ_cons, List.take_zero, List.drop_succ_cons, List.drop_zero, List.take_nil, List.drop_nil, List.append_nil, eqAV, eqAVL, BEq.rfl, eqA, eqD, sameS, Option.map, Option.isNone, addrA, wrap64, gt_iff_lt, ge_iff_le, Int.lt_irrefl, Int.le_refl]
                exact ⟨m3 - 1, by omega, j + 1, by omega, rfl⟩
              · have hj1' : ¬ (0 : Int) < (j : Int) := by omega
                simp -implicitDefEqProofs only [x1, x5, x8, x9, x13, x67, x68, x69, hj', hj0, ldx, hmap3, hfx, h63, hle, hj1', hw, iv, Bool.false_eq_true, ↓WP_seq, ↓WP_skip, ↓WP_region, ↓WP_dregion, ↓WP_cond, ↓WP_block, ↓WP_exit, ↓WP_ret, ↓OW_nil, ↓OW_cons, ↓DW_nil, ↓DW_cons, ↓XW_call, XW, exA, KO_eq, KD_eq, OptK_some, EvK_some, GW2_true, GW2_false, KS_normal, KS_ret, KS_exit, KB_normal, KB_ret, KB_exit, CP2_bool, RP_ret, RP_normal, putA_some, putA_none, ev_t, ev_c, evs, evo, wantA, initA, resA, Tr.get_set, vl, chkOk, cond_true, cond_false, Nat.add_zero, Nat.mul_one, Nat.one_mul, Nat.zero_add, Nat.zero_mul, aggOf, pInt, binA, unA, intA, beq_true, beq_false, Bool.not_true, Bool.not_false, Bool.not_eq_true, and_self, and_true, true_and, ↓reduceIte, reduceIte, Nat.reduceEqDiff, Nat.succ_ne_self, Nat.reduceAdd, Nat.reduceMul, Nat.reduceSub, Nat.reduceBEq, Nat.reduceLT, Nat.reduceLeDiff, Int.cast_ofNat_Int, Int.reduceToNat, Int.reduceLT, Int.reduceLE, Int.reduceGE, Int.reduceGT, Int.reduceEq, Int.reduceNe, Int.reduceAdd, Int.reduceSub, Int.reduceNeg, decide_true, decide_false, Int.toNat_natCast, reduceCtorEq, List.nil_append, List.cons_append, AV.boxy, AV.cells, List.length_cons, List.length_nil, Nat.beq_refl, AOp.cl, ↓OW_guard, ↓DW_guard, KDW_0, KDW_1, KDW_2, OWskip_eq, DWskip_eq, fillA, setAt, DChk, DAt, stepA, ble_dec, beq_dec, Bool.and_self, Bool.and_true, Bool.true_and, Bool.and_false, Bool.false_and, List.take_succ_cons, List.take_zero, List.drop_succ_cons, List.drop_zero, List.take_nil, List.drop_nil, List.append_nil, eqAV, eqAVL, BEq.rfl, eqA, eqD, sameS, Option.map, Option.isNone, addrA, wrap64, gt_iff_lt, ge_iff_le, Int.lt_irrefl, Int.le_refl]
                exact ⟨m3 - 1, by omega, j + 1, by omega, rfl⟩
            · have hj' : ¬ (j : Int) < ((vWake s (and63 now)).length : Int) := by omega
              obtain ⟨fq2, D2, hq2, nq2⟩ := solo3.on
              have heq : (((vWake s (and63 now)).length : Int) == ((s.s.filter (due (and63 now))).length : Int)) = true := by rw [hdl]; simp
              simp -implicitDefEqProofs only [x1, x5, x8, x9, x13, x67, x68, x69, hj', heq, h63, Bool.false_eq_true, ↓WP_seq, ↓WP_skip, ↓WP_region, ↓WP_dregion, ↓WP_cond, ↓WP_block, ↓WP_exit, ↓WP_ret, ↓OW_nil, ↓OW_cons, ↓DW_nil, ↓DW_cons, ↓XW_call, XW, exA, KO_eq, KD_eq, OptK_some, EvK_some, GW2_true, GW2_false, KS_normal, KS_ret, KS_exit, KB_normal, KB_ret, KB_exit, CP2_bool, RP_ret, RP_normal, putA_some, putA_none, ev_t, ev_c, evs, evo, wantA, initA, resA, Tr.get_set, vl, chkOk, cond_true, cond_false, Nat.add_zero, Nat.mul_one, Nat.one_mul, Nat.zero_add, Nat.zero_mul, aggOf, pInt, binA, unA, intA, beq_true, beq_false, Bool.not_true, Bool.not_false, Bool.not_eq_true, and_self, and_true, true_and, ↓reduceIte, reduceIte, Nat.reduceEqDiff, Nat.succ_ne_self, Nat.reduceAdd, Nat.reduceMul, Nat.reduceSub, Nat.reduceBEq, Nat.reduceLT, Nat.reduceLeDiff, Int.cast_ofNat_Int, Int.reduceToNat, Int.reduceLT, Int.reduceLE, Int.reduceGE, Int.reduceGT, Int.reduceEq, Int.reduceNe, Int.reduceAdd, Int.reduceSub, Int.reduceNeg, decide_true, decide_false, Int.toNat_natCast, reduceCtorEq, List.nil_append, List.cons_append, AV.boxy, AV.cells, List.length_cons, List.length_nil, Nat.beq_refl, AOp.cl, ↓OW_guard, ↓DW_guard, KDW_0, KDW_1, KDW_2, OWskip_eq, DWskip_eq, fillA, setAt, DChk, DAt, stepA, ble_dec, beq_dec, Bool.and_self, Bool.and_true, Bool.true_and, Bool.and_false, Bool.false_and, List.take_succ_cons, List.take_zero, List.drop_succ_cons, List.drop_zero, List.take_nil, List.drop_nil, List.append_nil, eqAV, eqAVL, BEq.rfl, eqA, eqD, sameS, Option.map, Option.isNone, addrA, wrap64, gt_iff_lt, ge_iff_le, Int.lt_irrefl, Int.le_refl]
              refine CW.mono (c_Wake hq2 (inv.mWake _) (and63 now)) ?_
              rintro u H5 ⟨⟨P5, pf5, sl5⟩, hg5⟩
              obtain ⟨solo5, k5⟩ := nq2 _ _ hg5
              obtain ⟨fq5, D5, hq5, -⟩ := solo5.on
              have hss2 : (mWake s (and63 now)).s = wkr s (and63 now) := by unfold mWake; rw [pss_s]; rfl
              have hfn : (wkr s (and63 now)).filter (due (and63 now)) = [] := by
                refine List.filter_eq_nil_iff.2 fun z hz => ?_
                have := (List.mem_filter.1 hz).2
                simpa using this
              have hv2 : vWake (mWake s (and63 now)) (and63 now) = [] := by unfold vWake wkd; rw [hss2, hfn]; rfl
              rw [hv2] at sl5
              obtain ⟨av5, sv5, kv5, eu5⟩ := sl5.form
              subst eu5
              have h00 : (((0 : Nat) : Int) == 0) = true := rfl
              simp -implicitDefEqProofs only [x1, x5, x8, x9, x13, x67, x68, x69, hj', heq, h63, Bool.false_eq_true, List.length_nil, h00, ↓WP_seq, ↓WP_skip, ↓WP_region, ↓WP_dregion, ↓WP_cond, ↓WP_block, ↓WP_exit, ↓WP_ret, ↓OW_nil, ↓OW_cons, ↓DW_nil, ↓DW_cons, ↓XW_call, XW, exA, KO_eq, KD_eq, OptK_some, EvK_some, GW2_true, GW2_false, KS_normal, KS_ret, KS_exit, KB_normal, KB_ret, KB_exit, CP2_bool, RP_ret, RP_normal, putA_some, putA_none, ev_t, ev_c, evs, evo, wantA, initA, resA, Tr.get_set, vl, chkOk, cond_true, cond_false, Nat.add_zero, Nat.mul_one, Nat.one_mul, Nat.zero_add, Nat.zero_mul, aggOf, pInt, binA, unA, intA, beq_true, beq_false, Bool.not_true, Bool.not_false, Bool.not_eq_true, and_self, and_true, true_and, ↓reduceIte, reduceIte, Nat.reduceEqDiff, Nat.succ_ne_self, Nat.reduceAdd, Nat.reduceMul, Nat.reduceSub, Nat.reduceBEq, Nat.reduceLT, Nat.reduceLeDiff, Int.cast_ofNat_Int, Int.reduceToNat, Int.reduceLT, Int.reduceLE, Int.reduceGE, Int.reduceGT, Int.reduceEq, Int.reduceNe, Int.reduceAdd, Int.reduceSub, Int.reduceNeg, decide_true, decide_false, Int.toNat_natCast, reduceCtorEq, List.nil_append, List.cons_append, AV.boxy, AV.cells, List.length_cons, List.length_nil, Nat.beq_refl, AOp.cl, ↓OW_guard, ↓DW_guard, KDW_0, KDW_1, KDW_2, OWskip_eq, DWskip_eq, fillA, setAt, DChk, DAt, stepA, ble_dec, beq_dec, Bool.and_self, Bool.and_true, Bool.true_and, Bool.and_false, Bool.false_and, List.take_succ_cons, List.take_zero, List.drop_succ_cons, List.drop_zero, List.take_nil, List.drop_nil, List.append_nil, eqAV, eqAVL, BEq.rfl, eqA, eqD, sameS, Option.map, Option.isNone, addrA, wrap64, gt_iff_lt, ge_iff_le, Int.lt_irrefl, Int.le_refl]
              refine CW.mono (c_First hq5.qlP) ?_
              rintro u H6 ⟨rfl, rfl⟩
              have htot : tot (mWake (mWake s (and63 now)) (and63 now)) = (vWake s (and63 now)).length := by
                have hl1 : ∀ z, ((mWake s (and63 now)).sets (wkr (mWake s (and63 now)) (and63 now))).lv z < 4 := fun z => (inv.mWake (and63 now)).lv4 z
                have hl2 : ∀ z, (s.sets (wkr s (and63 now))).lv z < 4 := fun z => inv.lv4 z
                have e1 : tot (mWake (mWake s (and63 now)) (and63 now)) = tot (mWake s (and63 now)) := by
                  have ew : ∀ t : QS, mWake t (and63 now) = pss (t.sets (wkr t (and63 now))) (vWake t (and63 now)) := fun _ => rfl
                  have : mWake (mWake s (and63 now)) (and63 now) = pss ((mWake s (and63 now)).sets (wkr (mWake s (and63 now)) (and63 now))) [] := by
                    rw [ew (mWake s (and63 now)), hv2]
                  rw [this, tot_pss _ _ hl1]; rfl
                have e2 : tot (mWake s (and63 now)) = tot s + (vWake s (and63 now)).length := by
                  have : mWake s (and63 now) = pss (s.sets (wkr s (and63 now))) (vWake s (and63 now)) := rfl
                  rw [this, tot_pss _ _ hl2]; rfl
                rw [e1, e2]; omega
              have hfin : (decide (0 ≤ optI (fst1 (mWake (mWake s (and63 now)) (and63 now)))) == decide ((0 : Int) < ((s.s.filter (due (and63 now))).length : Int))) = true := by
                rw [← hdl]
                by_cases h0 : (vWake s (and63 now)).length = 0
                · rw [fst1_of_tot0 (by rw [htot, h0]), h0]; rfl
                · obtain ⟨z, hz⟩ := top_of_tot (s := mWake (mWake s (and63 now)) (and63 now)) (by omega)
                  rw [hz]
                  have h1 : (0 : Int) ≤ optI (some z) := by simp [optI]
                  have h2 : (0 : Int) < ((vWake s (and63 now)).length : Int) := by omega
                  rw [decide_eq_true h1, decide_eq_true h2]; rfl
              simp -implicitDefEqProofs only [x1, x5, x8, x9, x13, x67, x68, x69, hj', heq, h63, iv, Bool.false_eq_true, List.length_nil, h00, hfin, ↓WP_seq, ↓WP_skip, ↓WP_region, ↓WP_dregion, ↓WP_cond, ↓WP_block, ↓WP_exit, ↓WP_ret, ↓OW_nil, ↓OW_cons, ↓DW_nil, ↓DW_cons, ↓XW_call, XW, exA, KO_eq, KD_eq, OptK_some, EvK_some, GW2_true, GW2_false, KS_normal, KS_ret, KS_exit, KB_normal, KB_ret, KB_exit, CP2_bool, RP_ret, RP_normal, putA_some, putA_none, ev_t, ev_c, evs, evo, wantA, initA, resA, Tr.get_set, vl, chkOk, cond_true, cond_false, Nat.add_zero, Nat.mul_one, Nat.one_mul, Nat.zero_add, Nat.zero_mul, aggOf, pInt, binA, unA, intA, beq_true, beq_false, Bool.not_true, Bool.not_false, Bool.not_eq_true, and_self, and_true, true_and, ↓reduceIte, reduceIte, Nat.reduceEqDiff, Nat.succ_ne_self, Nat.reduceAdd, Nat.reduceMul, Nat.reduceSub, Nat.reduceBEq, Nat.reduceLT, Nat.reduceLeDiff, Int.cast_ofNat_Int, Int.reduceToNat, Int.reduceLT, Int.reduceLE, Int.reduceGE, Int.reduceGT, Int.reduceEq, Int.reduceNe, Int.reduceAdd, Int.reduceSub, Int.reduceNeg, decide_true, decide_false, Int.toNat_natCast, reduceCtorEq, List.nil_append, List.cons_append, AV.boxy, AV.cells, List.length_cons, List.length_nil, Nat.beq_refl, AOp.cl, ↓OW_guard, ↓DW_guard, KDW_0, KDW_1, KDW_2, OWskip_eq, DWskip_eq, fillA, setAt, DChk, DAt, stepA, ble_dec, beq_dec, Bool.and_self, Bool.and_true, Bool.true_and, Bool.and_false, Bool.false_and, List.take_succ_cons, List.take_zero, List.drop_succ_cons, List.drop_zero, List.take_nil, List.drop_nil, List.append_nil, eqAV, eqAVL, BEq.rfl, eqA, eqD, sameS, Option.map, Option.isNone, addrA, wrap64, gt_iff_lt, ge_iff_le, Int.lt_irrefl, Int.le_refl]
              refine CW.mono c_known ?_
              rintro u H7 ⟨rfl, rfl⟩
              simp -implicitDefEqProofs only [↓WP_seq, ↓WP_skip, ↓WP_region, ↓WP_dregion, ↓WP_cond, ↓WP_block, ↓WP_exit, ↓WP_ret, ↓OW_nil, ↓OW_cons, ↓DW_nil, ↓DW_cons, ↓XW_call, XW, exA, KO_eq, KD_eq, OptK_some, EvK_some, GW2_true, GW2_false, KS_normal, KS_ret, KS_exit, KB_normal, KB_ret, KB_exit, CP2_bool, RP_ret, RP_normal, putA_some, putA_none, ev_t, ev_c, evs, evo, wantA, initA, resA, Tr.get_set, vl, chkOk, cond_true, cond_false, Nat.add_zero, Nat.mul_one, Nat.one_mul, Nat.zero_add, Nat.zero_mul, aggOf, pInt, binA, unA, intA, beq_true, beq_false, Bool.not_true, Bool.not_false, Bool.not_eq_true, and_self, and_true, true_and, ↓reduceIte, reduceIte, Nat.reduceEqDiff, Nat.succ_ne_self, Nat.reduceAdd, Nat.reduceMul, Nat.reduceSub, Nat.reduceBEq, Nat.reduceLT, Nat.reduceLeDiff, Int.cast_ofNat_Int, Int.reduceToNat, Int.reduceLT, Int.reduceLE, Int.reduceGE, Int.reduceGT, Int.reduceEq, Int.reduceNe, Int.reduceAdd, Int.reduceSub, Int.reduceNeg, decide_true, decide_false, Int.toNat_natCast, reduceCtorEq, List.nil_append, List.cons_append, AV.boxy, AV.cells, List.length_cons, List.length_nil, Nat.beq_refl, AOp.cl, ↓OW_guard, ↓DW_guard, KDW_0, KDW_1, KDW_2, OWskip_eq, DWskip_eq, fillA, setAt, DChk, DAt, stepA, ble_dec, beq_dec, Bool.and_self, Bool.and_true, Bool.true_and, Bool.and_false, Bool.false_and, List.take_succ_cons, List.take_zero, List.drop_succ_cons, List.drop_zero, List.take_nil, List.drop_nil, List.append_nil, eqAV, eqAVL, BEq.rfl, eqA, eqD, sameS, Option.map, Option.isNone, addrA, wrap64, gt_iff_lt, ge_iff_le, Int.lt_irrefl, Int.le_refl]
end
end Go.Proofs.Ytldlolpbnfgdeaa.AA
namespace Go.Proofs.Ytldlolpbnfgdeaa.AA
open Go Go.RowKit Go.Proofs.Ytldlolpbnfgdeaa
theorem sleeps_call (w : World) {a : Option Addr} {len cap : Nat} {f : Nat → Int} (hr : RowAt w a len cap 1 ((List.range (len * 1)).map fun j => iv (f j))) (now : Int) : Calls Try.prog 9 #[.slice a len cap, .int .i64 now] w fun e w' => e = .returned (.bool true) ∧ Kp (fun k => k < w.heap.size) w w' := by
  obtain ⟨ρ, H, v, h1, h2, h3, h4, h5, h6⟩ := add_row (HS.empty w) RO.empty hr
  rw [Nat.mul_one] at h6
  refine law_true (args := [v, iv now]) (c_sleeps h6 now) h1 ?_
  simp only [RL, iv]
  exact ⟨_, _, rfl, h5, _, _, rfl, by simp only [R], rfl⟩
end Go.Proofs.Ytldlolpbnfgdeaa.AA
