/- Names. -/
import Derived.Test.YtojeldemfccilaaGreatDoorKCalB
import Derived.Test.YtojeldemfccilaaGreatDoorKImgQ
set_option linter.unusedSimpArgs false
set_option linter.unusedVariables false
namespace Go.Proofs.YtojeldemfccilaaGreatDoor.AA
open Go Go.RowKit
set_option maxRecDepth 100000
def cntO (args : List AV) (H : AHeap) : Option (AV × AHeap) := match args with
  | [.str s, .str [c]] => if c < 256 then some (.int .i64 (s.count c), H) else none
  | _ => none
def oraN : Rec := fun f args H => bif f.beq 113 then cntO args H else none
def MN : Mach := ⟨fsT, noM, oraN⟩
theorem CW_ora {M : Mach} {f : Nat} {l : List AV} {H H' : AHeap} {v : AV} {Q : AV → AHeap → Prop} (hf : M.fs f = none) (h : M.ora f l H = some (v, H')) (k : Q v H') : CW M f l H Q :=
  ⟨v, H', ⟨0, fun n _ => by unfold callA; rw [hf]; exact h⟩, k⟩
theorem c_Count {H : AHeap} (s : List Nat) {c : Nat} (hc : c < 256) : CW MN 113 [.str s, .str [c]] H fun v H' => v = .int .i64 (s.count c) ∧ H' = H :=
  CW_ora (by rfl) (show oraN 113 [.str s, .str [c]] H = some (.int .i64 (s.count c), H) by simp [oraN, cntO, hc]) ⟨rfl, rfl⟩
attribute [local go_sem ↓] WP_seq WP_skip WP_region WP_dregion WP_cond WP_block WP_exit WP_ret OW_nil OW_cons DW_nil DW_cons XW_call reduceIte OW_guard DW_guard
attribute [local go_sem] XW exA KO_eq OptK_some EvK_some GW2_true GW2_false KS_normal KS_ret KS_exit KB_normal KB_ret KB_exit CP2_bool RP_ret putA_some putA_none ev_t ev_c evs evo wantA initA resA Tr.get_set vl chkOk cond_true cond_false Nat.add_zero Nat.mul_one Nat.one_mul Nat.zero_add Nat.zero_mul aggOf pInt binA unA intA beq_true beq_false Bool.not_true Bool.not_false Bool.not_eq_true and_self and_true true_and reduceIte Nat.reduceEqDiff Nat.succ_ne_self Nat.reduceAdd Nat.reduceMul Nat.reduceSub Nat.reduceBEq Nat.reduceLT Nat.reduceLeDiff Int.cast_ofNat_Int Int.reduceToNat Int.reduceLT Int.reduceLE Int.reduceGE Int.reduceGT Int.reduceEq Int.reduceNe Int.reduceAdd Int.reduceSub Int.reduceNeg decide_true decide_false Int.toNat_natCast reduceCtorEq List.nil_append List.cons_append AV.boxy AV.cells List.length_cons List.length_nil Nat.beq_refl AOp.cl KDW_0 KDW_1 KDW_2 OWskip_eq DWskip_eq fillA setAt DChk DAt stepA ble_dec beq_dec Bool.and_self Bool.and_true Bool.true_and Bool.and_false Bool.false_and List.take_succ_cons List.take_zero List.drop_succ_cons List.drop_zero List.take_nil List.drop_nil List.append_nil eqAV eqAVL BEq.rfl sameS Option.map Option.isNone wrap64 gt_iff_lt ge_iff_le Int.lt_irrefl Int.le_refl
set_option maxHeartbeats 1000000
attribute [local irreducible] Tr.set
def letterP (c : Nat) : Bool := (decide (97 ≤ c) && decide (c ≤ 122)) || (decide (65 ≤ c) && decide (c ≤ 90))
theorem c_letter {H : AHeap} (c : Nat) : CW MN 120 [.int .u8 c] H fun v H' => v = .bool (letterP c) ∧ H' = H := by
  refine CW_of (fn := af120) rfl ?_
  dsimp only [af120, qm, q, qG, qn, qi, qb, qB, qk, qc, qo, qg, qv, qr]
  by_cases h1 : (97 : Int) ≤ c
  · by_cases h2 : (c : Int) ≤ 122
    · have e : letterP c = true := by simp [letterP]; omega
      simp -implicitDefEqProofs only [h1, h2, e, eqA, eqD, go_sem]
    · have h3 : (65 : Int) ≤ c := by omega
      have h4 : ¬ (c : Int) ≤ 90 := by omega
      have e : letterP c = false := by simp [letterP]; omega
      simp -implicitDefEqProofs only [h1, h2, h3, h4, e, Bool.false_eq_true, eqA, eqD, go_sem]
  · by_cases h3 : (65 : Int) ≤ c
    · by_cases h4 : (c : Int) ≤ 90
      · have e : letterP c = true := by simp [letterP]; omega
        simp -implicitDefEqProofs only [h1, h3, h4, e, Bool.false_eq_true, eqA, eqD, go_sem]
      · have e : letterP c = false := by simp [letterP]; omega
        simp -implicitDefEqProofs only [h1, h3, h4, e, Bool.false_eq_true, eqA, eqD, go_sem]
    · have e : letterP c = false := by simp [letterP]; omega
      simp -implicitDefEqProofs only [h1, h3, e, Bool.false_eq_true, eqA, eqD, go_sem]
theorem at_str {s : List Nat} {i : Nat} (h : i < s.length) : s[i]? = some s[i] := List.getElem?_eq_getElem h
def bset (l : List Nat) (i : Nat) : AV := .bool (decide (i ∈ l))
def rowS (l : List Nat) : List AV := (List.range 256).map (bset l)
theorem bset_snoc (l : List Nat) (y j : Nat) : bset (l ++ [y]) j = if j = y then .bool true else bset l j := by
  unfold bset
  by_cases e : j = y
  · rw [if_pos e]; congr 1; simp [e]
  · rw [if_neg e]; congr 1; simp [e]
theorem take_snoc {α : Type} {l : List α} {i : Nat} (h : i < l.length) : l.take (i + 1) = l.take i ++ [l[i]] := by
  rw [List.take_add_one, List.getElem?_eq_getElem h]; rfl
theorem rowS_len (l : List Nat) : (rowS l).length = 256 := by simp [rowS]
theorem rowS_at {l : List Nat} {i : Nat} (h : i < 256) : (rowS l)[i]? = some (bset l i) := by simp [rowS, h]
theorem Blk.set {H : AHeap} {b : Nat} {l : List Nat} {f : Nat → AV} (h : Blk H b 256 f) (e : ∀ i, i < 256 → f i = bset l i) : Rd H b 0 (rowS l) :=
  h.rd (i := 0) (vs := rowS l) (by rw [rowS_len]; omega) fun j v hj => by
    have := (List.getElem?_eq_some_iff.1 hj).1
    rw [rowS_len] at this
    rw [rowS_at this] at hj
    rw [Nat.zero_add, e j this]
    exact Option.some.inj hj
theorem zs1_len : zs1.length = 256 := by simp [zs1]
theorem zs0_lenN : zs0.length = 256 := by simp [zs0]
theorem c_mkset {H : AHeap} (l : List Nat) (hl : ∀ x, x ∈ l → x < 128) (hn : l.length ≤ 9223372036854775807) : CW MN 128 [.str l] H fun v H' => v = .tuple [.agg (rowS l), .bool true] ∧ Sm H H' := by
  refine CW_of (fn := af128) rfl ?_
  dsimp only [af128, qm, q, qG, qn, qi, qb, qB, qk, qc, qo, qg, qv, qr]
  have b1 := Blk.new H zs1 (n := 256) zs1_len
  have s1 := Chg.newRow H zs1
  generalize eH : H.newRow zs1 = H1 at b1 s1
  have b2 : Blk H1 H.next 256 (bset (l.take 0)) := b1.congr fun i hi => by
    unfold updL bset zs1
    simp only [Nat.zero_le, if_true, Nat.sub_zero, List.getElem?_replicate, hi, List.take_zero, List.not_mem_nil, decide_false]
  simp -implicitDefEqProofs only [eH, eqA, eqD, go_sem]
  refine WP_loop (fun n fr H' => ∃ i : Nat, n = l.length - i ∧ i ≤ l.length ∧ fr.get 0 = some (.str l) ∧ fr.get 2 = some (.ptr (some (H.next, 0))) ∧ fr.get 4 = some (.int .i64 i) ∧ Sm H H' ∧ Blk H' H.next 256 (bset (l.take i))) l.length ?_ ?_
  · refine ⟨0, rfl, by omega, ?_⟩
    simp -implicitDefEqProofs only [eqA, eqD, go_sem]
    exact ⟨s1, b2⟩
  · rintro n fr H2 ⟨i, hn', hi, g0, g2, g4, s2, b3⟩
    have i0 : (0 : Int) ≤ i := by omega
    by_cases hlt : i < l.length
    · have hlt' : (i : Int) < (l.length : Int) := by omega
      have hw : IntKind.i64.wrap ((i : Int) + 1) = ((i + 1 : Nat) : Int) := by rw [wrap64 (by omega) (by omega)]; omega
      have hx := at_str hlt
      have h128 := hl l[i] (List.getElem_mem hlt)
      have h1 : ¬ (128 : Int) ≤ (l[i] : Int) := by omega
      have h2 : (0 : Int) ≤ (l[i] : Int) := by omega
      have h3 : (l[i] : Int) < 256 := by omega
      obtain ⟨H3, q1, q2, q3, q4⟩ := b3.store (i := l[i]) (by omega) (.bool true)
      simp -implicitDefEqProofs only [g0, g2, g4, hlt', i0, hx, h1, h2, h3, q1, hw, and_self, Bool.false_eq_true, eqA, eqD, go_sem]
      refine ⟨l.length - (i + 1), by omega, i + 1, rfl, by omega, rfl, s2.ch (r := H.next) (by omega) ⟨q3, q4⟩, q2.congr fun j hj => ?_⟩
      rw [take_snoc hlt, bset_snoc]
      by_cases e : j = l[i]
      · subst e; rw [upd_same, if_pos rfl]
      · rw [upd_ne e, if_neg e]
    · have hlt' : ¬ (i : Int) < (l.length : Int) := by omega
      obtain rfl : i = l.length := by omega
      rw [List.take_length] at b3
      have r3 := b3.set fun _ _ => rfl
      have l3 := r3.load (n := 256) (rowS_len l)
      obtain ⟨H4, q1, q2, q3⟩ := b3.stores (i := 0) (vs := rowS l) (by rw [rowS_len]; omega)
      have r4 : Rd H4 H.next 0 (rowS l) := q2.set fun i hi => by
        unfold updL
        rw [if_pos (Nat.zero_le _), Nat.sub_zero, rowS_at hi]
      have l4 := r4.load (n := 256) (rowS_len l)
      simp -implicitDefEqProofs only [g0, g2, g4, hlt', l3, l4, q1, rowS_len, Bool.false_eq_true, eqA, eqD, go_sem]
      exact s2.ch (r := H.next) (by omega) q3
theorem c_has {H : AHeap} {x : Nat} {l : List Nat} (h : Rd H x 0 (rowS l)) {c : Nat} (hc : c < 256) : CW MN 134 [.ptr (some (x, 0)), .int .u8 c] H fun v H' => v = .bool (decide (c ∈ l)) ∧ H' = H := by
  refine CW_of (fn := af134) rfl ?_
  dsimp only [af134, qm, q, qG, qn, qi, qb, qB, qk, qc, qo, qg, qv, qr]
  have h1 := h.one (rowS_at (l := l) hc)
  rw [Nat.zero_add] at h1
  have h2 : (0 : Int) ≤ (c : Int) := by omega
  have h3 : (c : Int) < 256 := by omega
  simp -implicitDefEqProofs only [h1, h2, h3, bset, and_self, eqA, eqD, go_sem]
set_option maxHeartbeats 1000000
def signsL : List Nat := [43, 45, 42, 47, 60, 62, 61, 126, 38, 124, 37]
def ByL (s : List Nat) : Prop := ∀ x, x ∈ s → x < 256
theorem ByL.at {s : List Nat} (h : ByL s) {i : Nat} (hi : i < s.length) : s[i] < 256 := h _ (List.getElem_mem hi)
theorem c_trimR {H : AHeap} {x : Nat} {l s : List Nat} (h : Rd H x 0 (rowS l)) (hs : ByL s) (hn : s.length ≤ 9223372036854775807) : CW MN 130 [.str s, .ptr (some (x, 0))] H fun v H' => (∃ r d, v = .str r ∧ s = r ++ d ∧ ∀ y, y ∈ d → y ∈ l) ∧ H' = H := by
  refine CW_of (fn := af130) rfl ?_
  dsimp only [af130, qm, q, qG, qn, qi, qb, qB, qk, qc, qo, qg, qv, qr]
  simp -implicitDefEqProofs only [eqA, eqD, go_sem]
  refine WP_loop (fun n fr H' => ∃ r d, n = r.length ∧ s = r ++ d ∧ (∀ y, y ∈ d → y ∈ l) ∧ fr.get 0 = some (.str r) ∧ fr.get 1 = some (.ptr (some (x, 0))) ∧ H' = H) s.length ?_ ?_
  · refine ⟨s, [], rfl, by simp, by simp, ?_⟩
    simp -implicitDefEqProofs only [eqA, eqD, go_sem]
  · rintro n fr H' ⟨r, d, hn', hsd, hd, g0, g1, rfl⟩
    have hrl : r.length ≤ s.length := by rw [hsd]; simp
    by_cases h0 : r.length = 0
    · have h1 : ¬ (0 : Int) < (r.length : Int) := by omega
      simp -implicitDefEqProofs only [g0, g1, h1, Bool.false_eq_true, eqA, eqD, go_sem]
      exact ⟨r, d, rfl, hsd, hd⟩
    · have h1 : (0 : Int) < (r.length : Int) := by omega
      obtain ⟨k, hk⟩ : ∃ k, r.length = k + 1 := ⟨r.length - 1, by omega⟩
      have hw : IntKind.i64.wrap ((r.length : Int) - 1) = (k : Int) := by rw [wrap64 (by omega) (by omega)]; omega
      have k0 : (0 : Int) ≤ (k : Int) := by omega
      have hx : r[k]? = some r[k] := at_str (by omega)
      have hby : r[k] < 256 := hs _ (by rw [hsd]; exact List.mem_append_left _ (List.getElem_mem (by omega)))
      have hr : r = r.take k ++ [r[k]] := by
        rw [← take_snoc (by omega), List.take_of_length_le (by omega)]
      simp -implicitDefEqProofs only [g0, g1, h1, hw, k0, hx, eqA, eqD, go_sem]
      refine CW.mono (c_has h hby) ?_
      rintro v H'' ⟨rfl, rfl⟩
      by_cases hm : r[k] ∈ l
      · have hb : boundA (some (.int .i64 (k : Int))) 0 r.length r.length = some k := by
          have : (0 : Int) ≤ (k : Int) ∧ (k : Int) ≤ (r.length : Int) := by omega
          simp [boundA, this]
        have hb0 : boundA none 0 k 0 = some 0 := rfl
        simp -implicitDefEqProofs only [g0, g1, hm, hw, hb, hb0, List.drop_zero, Nat.sub_zero, Bool.false_eq_true, eqA, eqD, go_sem]
        refine ⟨k, by omega, r.take k, r[k] :: d, by simp; omega, ?_, ?_, rfl⟩
        · rw [hsd]
          conv => lhs; rw [hr]
          rw [List.append_assoc]; rfl
        · intro y hy
          rcases List.mem_cons.1 hy with rfl | hy
          · exact hm
          · exact hd y hy
      · simp -implicitDefEqProofs only [g0, g1, hm, eqA, eqD, go_sem]
        exact ⟨r, d, rfl, hsd, hd⟩
theorem c_trimL {H : AHeap} {x : Nat} {l s : List Nat} (h : Rd H x 0 (rowS l)) (hs : ByL s) (hn : s.length ≤ 9223372036854775807) : CW MN 129 [.str s, .ptr (some (x, 0))] H fun v H' => (∃ r, v = .str r ∧ (r = [] ↔ ∀ y, y ∈ s → y ∈ l)) ∧ H' = H := by
  refine CW_of (fn := af129) rfl ?_
  dsimp only [af129, qm, q, qG, qn, qi, qb, qB, qk, qc, qo, qg, qv, qr]
  simp -implicitDefEqProofs only [eqA, eqD, go_sem]
  refine WP_loop (fun n fr H' => ∃ d r, n = r.length ∧ s = d ++ r ∧ (∀ y, y ∈ d → y ∈ l) ∧ fr.get 0 = some (.str r) ∧ fr.get 1 = some (.ptr (some (x, 0))) ∧ H' = H) s.length ?_ ?_
  · refine ⟨[], s, rfl, by simp, by simp, ?_⟩
    simp -implicitDefEqProofs only [eqA, eqD, go_sem]
  · rintro n fr H' ⟨d, r, hn', hsd, hd, g0, g1, rfl⟩
    have hrl : r.length ≤ s.length := by rw [hsd]; simp
    cases r with
    | nil =>
      have h1 : ¬ (0 : Int) < (([] : List Nat).length : Int) := by simp
      simp -implicitDefEqProofs only [g0, g1, h1, Bool.false_eq_true, Int.natCast_zero, eqA, eqD, go_sem]
      exact ⟨[], rfl, fun _ y hy => by rw [hsd] at hy; simp at hy; exact hd y hy, fun _ => rfl⟩
    | cons c r =>
      have h1 : (0 : Int) < ((c :: r).length : Int) := by simp only [List.length_cons]; omega
      have hx : (c :: r)[0]? = some c := rfl
      have hby : c < 256 := hs _ (by rw [hsd]; simp)
      have hb : boundA none 0 (c :: r).length (c :: r).length = some (c :: r).length := rfl
      have hb0 : boundA (some (.int .i64 1)) 0 (c :: r).length 0 = some 1 := by simp [boundA]; omega
      generalize hq : (c :: r) = q at g0 h1 hx hb hb0
      simp -implicitDefEqProofs only [g0, g1, h1, hx, eqA, eqD, go_sem]
      refine CW.mono (c_has h hby) ?_
      rintro v H'' ⟨rfl, rfl⟩
      by_cases hm : c ∈ l
      · have hq1 : (q.drop 1).take (q.length - 1) = r := by subst hq; simp
        simp -implicitDefEqProofs only [g0, g1, hm, hb, hb0, hq1, Bool.false_eq_true, eqA, eqD, go_sem]
        refine ⟨r.length, by simp [hn'], d ++ [c], r, rfl, by simp [hsd], ?_, rfl⟩
        intro y hy
        rcases List.mem_append.1 hy with hy | hy
        · exact hd y hy
        · obtain rfl : y = c := by simpa using hy
          exact hm
      · simp -implicitDefEqProofs only [g0, g1, hm, eqA, eqD, go_sem]
        refine ⟨q, rfl, ?_⟩
        subst hq
        constructor
        · intro e; cases e
        · intro e; exact absurd (e c (by rw [hsd]; simp)) hm
theorem c_trim {H : AHeap} {s : List Nat} (hs : ByL s) (hn : s.length ≤ 9223372036854775807) : CW MN 121 [.str s, .str signsL] H fun v H' => (∃ r, v = .str r ∧ (r = [] ↔ ∀ y, y ∈ s → y ∈ signsL)) ∧ Sm H H' := by
  refine CW_of (fn := af121) rfl ?_
  dsimp only [af121, qm, q, qG, qn, qi, qb, qB, qk, qc, qo, qg, qv, qr]
  by_cases h0 : s = []
  · subst h0
    simp -implicitDefEqProofs only [eqA, eqD, go_sem]
    exact ⟨⟨[], rfl, by simp⟩, Chg.refl H⟩
  · have h0' : (s == ([] : List Nat)) = false := by simpa using h0
    have h1 : (signsL == ([] : List Nat)) = false := rfl
    have h2 : ((signsL.length : Int) == 1) = false := rfl
    simp -implicitDefEqProofs only [h0', h1, h2, Bool.false_eq_true, eqA, eqD, go_sem]
    refine CW.mono (c_mkset signsL (by decide) (by decide)) ?_
    rintro v H1 ⟨rfl, s1⟩
    have s2 := Chg.newRow H1 zs0
    have b2 := Blk.new H1 zs0 (n := 256) zs0_lenN
    generalize eH2 : H1.newRow zs0 = H2 at s2 b2
    obtain ⟨H3, q1, q2, q3⟩ := b2.stores (i := 0) (vs := rowS signsL) (by rw [rowS_len]; omega)
    have r3 : Rd H3 H1.next 0 (rowS signsL) := q2.set fun i hi => by
      unfold updL
      rw [if_pos (Nat.zero_le _), Nat.sub_zero, rowS_at hi]
    simp -implicitDefEqProofs only [at0, at1, eH2, q1, rowS_len, eqA, eqD, go_sem]
    refine CW.mono (c_trimR r3 hs hn) ?_
    rintro v H4 ⟨⟨r, d, rfl, hsd, hd⟩, rfl⟩
    simp -implicitDefEqProofs only [eqA, eqD, go_sem]
    refine CW.mono (c_trimL r3 (fun x hx => hs x (by rw [hsd]; exact List.mem_append_left _ hx)) (by rw [hsd] at hn; simp at hn; omega)) ?_
    rintro v H4 ⟨⟨r', rfl, hr'⟩, rfl⟩
    simp -implicitDefEqProofs only [eqA, eqD, go_sem]
    refine ⟨⟨r', rfl, hr'.trans ?_⟩, (s1.trans s2).ch (by have := s1.1; omega) q3⟩
    constructor
    · intro h y hy
      rw [hsd] at hy
      rcases List.mem_append.1 hy with hy | hy
      · exact h y hy
      · exact hd y hy
    · intro h y hy
      exact h y (by rw [hsd]; exact List.mem_append_left _ hy)
def ofSignsP (s : List Nat) : Bool := !(s == []) && decide (s.length ≤ 2) && s.all fun x => decide (x ∈ signsL)
theorem c_ofSigns {H : AHeap} {s : List Nat} (hs : ByL s) (hn : s.length ≤ 9223372036854775807) : CW MN 112 [.str s] H fun v H' => v = .bool (ofSignsP s) ∧ Sm H H' := by
  refine CW_of (fn := af112) rfl ?_
  dsimp only [af112, qm, q, qG, qn, qi, qb, qB, qk, qc, qo, qg, qv, qr]
  by_cases h0 : s = []
  · subst h0
    simp -implicitDefEqProofs only [bne_self_eq_false, Bool.false_eq_true, eqA, eqD, go_sem]
    exact ⟨rfl, Chg.refl H⟩
  · have h0' : (s != ([] : List Nat)) = true := by simpa using h0
    have h0'' : (s == ([] : List Nat)) = false := by simpa using h0
    by_cases h2 : (s.length : Int) ≤ 2
    · have h3 : s.length ≤ 2 := by omega
      simp -implicitDefEqProofs only [h0', h2, eqA, eqD, go_sem]
      refine CW.mono (c_trim hs hn) ?_
      rintro v H1 ⟨⟨r, rfl, hr⟩, s1⟩
      simp -implicitDefEqProofs only [eqA, eqD, go_sem]
      refine ⟨?_, s1⟩
      congr 1
      rw [Bool.eq_iff_iff]
      simp only [ofSignsP, h0'', h3, decide_true, Bool.not_false, Bool.true_and, List.all_eq_true, decide_eq_true_eq, beq_iff_eq]
      exact hr
    · have h3 : ¬ s.length ≤ 2 := by omega
      simp -implicitDefEqProofs only [h0', h2, Bool.false_eq_true, eqA, eqD, go_sem]
      refine ⟨?_, Chg.refl H⟩
      simp [ofSignsP, h0'', h3]
set_option maxHeartbeats 1000000
def digitP (x : Nat) : Bool := decide (48 ≤ x) && decide (x ≤ 57)
def nameB (x : Nat) : Bool := letterP x || (x == 58) || digitP x
def wordP (s : List Nat) : Bool := !(s == []) && decide (s.length ≤ 16) && letterP (s.headD 0) && s.all nameB
def rightP (s : List Nat) : Bool := ofSignsP s || wordP s
theorem c_Right {H : AHeap} {s : List Nat} (hs : ByL s) (hn : s.length ≤ 9223372036854775807) : CW MN 111 [.str s] H fun v H' => v = .bool (rightP s) ∧ Sm H H' := by
  refine CW_of (fn := af111) rfl ?_
  dsimp only [af111, qm, q, qG, qn, qi, qb, qB, qk, qc, qo, qg, qv, qr]
  simp -implicitDefEqProofs only [eqA, eqD, go_sem]
  refine CW.mono (c_ofSigns hs hn) ?_
  rintro v H1 ⟨rfl, s1⟩
  cases ho : ofSignsP s with
  | true =>
    simp -implicitDefEqProofs only [eqA, eqD, go_sem]
    refine ⟨?_, s1⟩
    simp [rightP, ho]
  | false =>
    by_cases h0 : s = []
    · subst h0
      simp -implicitDefEqProofs only [Bool.false_eq_true, eqA, eqD, go_sem]
      refine ⟨?_, s1⟩
      simp [rightP, ho, wordP]
    · have h0' : (s == ([] : List Nat)) = false := by simpa using h0
      by_cases h16 : (s.length : Int) ≤ 16
      · have h16' : ¬ (16 : Int) < (s.length : Int) := by omega
        have h16n : s.length ≤ 16 := by omega
        have hpos : 0 < s.length := by cases s <;> simp_all
        have hx0 := at_str hpos
        have hd0 : s.headD 0 = s[0] := by cases s <;> simp_all
        simp -implicitDefEqProofs only [h0', h16', hx0, Bool.false_eq_true, eqA, eqD, go_sem]
        refine CW.mono (c_letter s[0]) ?_
        rintro v H2 ⟨rfl, rfl⟩
        cases hl : letterP s[0] with
        | false =>
          simp -implicitDefEqProofs only [eqA, eqD, go_sem]
          refine ⟨?_, s1⟩
          simp only [rightP, ho, wordP, hd0, hl, Bool.and_false, Bool.false_and, Bool.or_false]
        | true =>
          simp -implicitDefEqProofs only [Bool.false_eq_true, eqA, eqD, go_sem]
          refine WP_loop (fun n fr H' => ∃ i : Nat, n = s.length - i ∧ i ≤ s.length ∧ (∀ j y, j < i → s[j]? = some y → nameB y = true) ∧ fr.get 0 = some (.str s) ∧ fr.get 20 = some (.int .i64 s.length) ∧ fr.get 21 = some (.int .i64 i) ∧ H' = H2) s.length ?_ ?_
          · refine ⟨0, rfl, by omega, fun j y hj => by omega, ?_⟩
            simp -implicitDefEqProofs only [eqA, eqD, go_sem]
          · rintro n fr H' ⟨i, hn', hi, hall, g0, g20, g21, rfl⟩
            have i0 : (0 : Int) ≤ i := by omega
            by_cases hlt : i < s.length
            · have hlt' : (i : Int) < (s.length : Int) := by omega
              have hw : IntKind.i64.wrap ((i : Int) + 1) = ((i + 1 : Nat) : Int) := by rw [wrap64 (by omega) (by omega)]; omega
              have hx := at_str hlt
              generalize s[i] = y at hx
              have hym : y ∈ s := List.mem_of_getElem? hx
              have next : nameB y = true → ∀ j z, j < i + 1 → s[j]? = some z → nameB z = true := by
                intro hy j z hj hz
                by_cases e : j = i
                · subst e; rw [hx] at hz; cases hz; exact hy
                · exact hall j z (by omega) hz
              have bad : nameB y = false → rightP s = false := by
                intro hy
                have : s.all nameB = false := List.all_eq_false.2 ⟨y, hym, by simp [hy]⟩
                simp [rightP, ho, wordP, this]
              simp -implicitDefEqProofs only [g0, g20, g21, hlt', i0, hx, eqA, eqD, go_sem]
              refine CW.mono (c_letter y) ?_
              rintro v H3 ⟨rfl, rfl⟩
              cases hly : letterP y with
              | true =>
                simp -implicitDefEqProofs only [g0, g20, g21, i0, hx, hw, Bool.false_eq_true, eqA, eqD, go_sem]
                exact ⟨s.length - (i + 1), by omega, i + 1, rfl, by omega, next (by simp [nameB, hly]), rfl⟩
              | false =>
                by_cases hc : y = 58
                · have hc' : ((y : Int) != 58) = false := by simp [hc]
                  simp -implicitDefEqProofs only [g0, g20, g21, i0, hx, hc', hw, Bool.false_eq_true, eqA, eqD, go_sem]
                  exact ⟨s.length - (i + 1), by omega, i + 1, rfl, by omega, next (by simp [nameB, hc]), rfl⟩
                · have hc' : ((y : Int) != 58) = true := by simp; omega
                  by_cases h48 : (y : Int) < 48
                  · simp -implicitDefEqProofs only [g0, g20, g21, i0, hx, hc', h48, eqA, eqD, go_sem]
                    refine ⟨?_, s1⟩
                    rw [bad (by simp [nameB, hly, hc, digitP]; omega)]
                  · by_cases h57 : (57 : Int) < (y : Int)
                    · simp -implicitDefEqProofs only [g0, g20, g21, i0, hx, hc', h48, h57, Bool.false_eq_true, eqA, eqD, go_sem]
                      refine ⟨?_, s1⟩
                      rw [bad (by simp [nameB, hly, hc, digitP]; omega)]
                    · simp -implicitDefEqProofs only [g0, g20, g21, i0, hx, hc', h48, h57, hw, Bool.false_eq_true, eqA, eqD, go_sem]
                      exact ⟨s.length - (i + 1), by omega, i + 1, rfl, by omega, next (by simp [nameB, digitP]; omega), rfl⟩
            · have hlt' : ¬ (i : Int) < (s.length : Int) := by omega
              simp -implicitDefEqProofs only [g0, g20, g21, hlt', Bool.false_eq_true, eqA, eqD, go_sem]
              refine ⟨?_, s1⟩
              have : s.all nameB = true := List.all_eq_true.2 fun y hy => by
                obtain ⟨j, hj, rfl⟩ := List.getElem_of_mem hy
                exact hall j _ (by omega) (at_str hj)
              simp only [rightP, wordP, this, h0', h16n, hd0, hl, decide_true, Bool.not_false, Bool.and_self, Bool.or_true]
      · have h16' : (16 : Int) < (s.length : Int) := by omega
        simp -implicitDefEqProofs only [h0', h16', Bool.false_eq_true, eqA, eqD, go_sem]
        refine ⟨?_, s1⟩
        have : ¬ s.length ≤ 16 := by omega
        simp [rightP, ho, wordP, this]
def argsP (s : List Nat) : Int := if rightP s then (if ofSignsP s then 1 else (s.count 58 : Int)) else -1
theorem c_Args {H : AHeap} {s : List Nat} (hs : ByL s) (hn : s.length ≤ 9223372036854775807) : CW MN 91 [.str s] H fun v H' => v = .int .i64 (argsP s) ∧ Sm H H' := by
  refine CW_of (fn := af91) rfl ?_
  dsimp only [af91, qm, q, qG, qn, qi, qb, qB, qk, qc, qo, qg, qv, qr]
  simp -implicitDefEqProofs only [eqA, eqD, go_sem]
  refine CW.mono (c_Right hs hn) ?_
  rintro v H1 ⟨rfl, s1⟩
  cases hr : rightP s with
  | false =>
    simp -implicitDefEqProofs only [eqA, eqD, go_sem]
    exact ⟨by simp [argsP, hr], s1⟩
  | true =>
    simp -implicitDefEqProofs only [Bool.false_eq_true, eqA, eqD, go_sem]
    refine CW.mono (c_ofSigns hs hn) ?_
    rintro v H2 ⟨rfl, s2⟩
    cases ho : ofSignsP s with
    | true =>
      simp -implicitDefEqProofs only [eqA, eqD, go_sem]
      exact ⟨by simp [argsP, hr, ho], s1.trans s2⟩
    | false =>
      simp -implicitDefEqProofs only [Bool.false_eq_true, eqA, eqD, go_sem]
      refine CW.mono (c_Count s (by omega)) ?_
      rintro v H3 ⟨rfl, rfl⟩
      simp -implicitDefEqProofs only [eqA, eqD, go_sem]
      exact ⟨by simp [argsP, hr, ho], s1.trans s2⟩
set_option maxHeartbeats 2000000
set_option maxHeartbeats 2000000
def padL (s : List Nat) : List Nat := s ++ List.replicate (16 - s.length) 0
def u8s (k : List Nat) : List AV := k.map fun n : Nat => .int .u8 (n : Int)
theorem u8s_len (k : List Nat) : (u8s k).length = k.length := by simp [u8s]
theorem padL_len {s : List Nat} (h : s.length ≤ 16) : (padL s).length = 16 := by simp [padL]; omega
theorem right_len {s : List Nat} (h : rightP s = true) : s.length ≤ 16 := by
  simp only [rightP, ofSignsP, wordP, Bool.or_eq_true, Bool.and_eq_true, decide_eq_true_eq] at h
  rcases h with h | h
  · have := h.1.2; omega
  · exact h.1.1.2
theorem name_nz {x : Nat} (h : nameB x = true) : x ≠ 0 := by rintro rfl; revert h; decide
theorem sign_nz {x : Nat} (h : x ∈ signsL) : x ≠ 0 := by rintro rfl; revert h; decide
theorem right_nz {s : List Nat} (h : rightP s = true) : ∀ x, x ∈ s → x ≠ 0 := by
  intro x hx
  simp only [rightP, ofSignsP, wordP, Bool.or_eq_true, Bool.and_eq_true, List.all_eq_true, decide_eq_true_eq] at h
  rcases h with h | h
  · exact sign_nz (h.2 x hx)
  · exact name_nz (h.2 x hx)
theorem take_pad {s : List Nat} (h : ∀ x, x ∈ s → x ≠ 0) : (padL s).takeWhile (· != 0) = s := by
  unfold padL
  rw [List.takeWhile_append_of_pos (by intro x hx; simpa using h x hx)]
  cases 16 - s.length with
  | zero => simp
  | succ n => simp [List.replicate_succ]
def kf (s : List Nat) (i : Nat) : AV := .int .u8 ((s.getD i 0 : Nat) : Int)
theorem u8s_at (s : List Nat) (i : Nat) : (u8s s)[i]? = if i < s.length then some (kf s i) else none := by
  unfold u8s kf
  rw [List.getElem?_map]
  by_cases h : i < s.length
  · rw [if_pos h, List.getElem?_eq_getElem h, List.getD_eq_getElem?_getD, List.getElem?_eq_getElem h]; rfl
  · rw [if_neg h, List.getElem?_eq_none (by omega)]; rfl
theorem kf_pad (s : List Nat) (i : Nat) : kf (padL s) i = kf s i := by
  unfold kf padL
  congr 2
  rw [List.getD_eq_getElem?_getD, List.getD_eq_getElem?_getD]
  by_cases h : i < s.length
  · rw [List.getElem?_append_left h]
  · rw [List.getElem?_append_right (by omega), List.getElem?_replicate, List.getElem?_eq_none (show s.length ≤ i by omega)]
    split <;> rfl
theorem updL_kf {f : Nat → AV} {s : List Nat} (h : ∀ i, s.length ≤ i → f i = .int .u8 0) (i : Nat) : updL f 0 (u8s s) i = kf s i := by
  unfold updL
  rw [if_pos (Nat.zero_le _), Nat.sub_zero, u8s_at]
  by_cases hi : i < s.length
  · rw [if_pos hi]
  · rw [if_neg hi]
    unfold kf
    rw [List.getD_eq_getElem?_getD, List.getElem?_eq_none (by omega)]
    exact h i (by omega)
theorem kf_nil (i : Nat) : kf [] i = .int .u8 0 := rfl
theorem Blk.new16 (H : AHeap) : Blk (H.newRow (u8s (padL []))) H.next 16 (kf []) := (Blk.new H (u8s (padL [])) (n := 16) rfl).congr fun i hi => by
  unfold updL
  rw [if_pos (Nat.zero_le _), Nat.sub_zero, u8s_at, if_pos (show i < (padL []).length from hi), kf_pad]
theorem Blk.copy16 {H : AHeap} {b : Nat} (h : Blk H b 16 (kf [])) {s : List Nat} (hs : s.length ≤ 16) : ∃ H2, storeA H b 0 (u8s s) = some H2 ∧ Blk H2 b 16 (kf s) ∧ Ch b H H2 := by
  obtain ⟨H2, q1, q2, q3⟩ := h.stores (i := 0) (vs := u8s s) (by rw [u8s_len]; omega)
  exact ⟨H2, q1, q2.congr fun i _ => updL_kf (fun i _ => kf_nil i) i, q3⟩
theorem Blk.put16 {H : AHeap} {b : Nat} {f : Nat → AV} (h : Blk H b 16 f) {s : List Nat} (hs : s.length ≤ 16) : ∃ H2, storeA H b 0 (u8s (padL s)) = some H2 ∧ Blk H2 b 16 (kf s) ∧ Ch b H H2 := by
  obtain ⟨H2, q1, q2, q3⟩ := h.stores (i := 0) (vs := u8s (padL s)) (by rw [u8s_len, padL_len hs]; omega)
  refine ⟨H2, q1, q2.congr fun i hi => ?_, q3⟩
  unfold updL
  rw [if_pos (Nat.zero_le _), Nat.sub_zero, u8s_at, if_pos (by rw [padL_len hs]; exact hi), kf_pad]
theorem Blk.rd16 {H : AHeap} {b : Nat} {s : List Nat} (h : Blk H b 16 (kf s)) (hs : s.length ≤ 16) : Rd H b 0 (u8s (padL s)) :=
  h.rd (by rw [u8s_len, padL_len hs]; omega) fun j v hj => by
    rw [u8s_at] at hj
    split at hj
    · rw [Nat.zero_add, ← kf_pad]; exact Option.some.inj hj
    · cases hj
theorem Blk.ld16 {H : AHeap} {b : Nat} {s : List Nat} (h : Blk H b 16 (kf s)) (hs : s.length ≤ 16) : loadA H b 0 16 = some (u8s (padL s)) := (h.rd16 hs).load (by rw [u8s_len, padL_len hs])
theorem u8s16 {s : List Nat} (hs : s.length ≤ 16) : (u8s (padL s)).length = 16 := by rw [u8s_len, padL_len hs]
theorem z16 : ([.int .u8 0, .int .u8 0, .int .u8 0, .int .u8 0, .int .u8 0, .int .u8 0, .int .u8 0, .int .u8 0, .int .u8 0, .int .u8 0, .int .u8 0, .int .u8 0, .int .u8 0, .int .u8 0, .int .u8 0, .int .u8 0] : List AV) = u8s (padL []) := rfl
def keyL (s : List Nat) : List Nat := if rightP s then s else []
theorem keyL_len (s : List Nat) : (keyL s).length ≤ 16 := by
  unfold keyL
  split
  · rename_i h; exact right_len h
  · simp
def keyV (s : List Nat) : AV := .agg (u8s (padL (keyL s)))
theorem c_Of {H : AHeap} {s : List Nat} (hs : ByL s) (hn : s.length ≤ 9223372036854775807) : CW MN 98 [.str s] H fun v H' => v = .tuple [keyV s, .bool (rightP s)] ∧ Sm H H' := by
  refine CW_of (fn := af98) rfl ?_
  dsimp only [af98, qm, q, qG, qn, qi, qb, qB, qk, qc, qo, qg, qv, qr]
  have s1 := Chg.newRow H (u8s (padL []))
  have b1 := Blk.new16 H
  have hn1 : (H.newRow (u8s (padL []))).next = H.next + 1 := rfl
  generalize eH1 : H.newRow (u8s (padL [])) = H1 at s1 b1 hn1
  have s2 := Chg.newRow H1 (u8s (padL []))
  have b2 := Blk.new16 H1
  have hn2 : (H1.newRow (u8s (padL []))).next = H1.next + 1 := rfl
  simp -implicitDefEqProofs only [z16, eH1, eqA, eqD, go_sem]
  refine CW.mono (c_Right hs hn) ?_
  rintro v H3 ⟨rfl, s3⟩
  have b1 := b1.keep' (H' := H3) (by have := s2.1; have := s3.1; omega) (by rw [s3.gt (by omega), s2.gt (by omega)])
  have b2 := b2.keep' (H' := H3) s3.1 (s3.gt (by omega))
  have s13 := (s1.trans s2).trans s3
  cases hr : rightP s with
  | false =>
    have l3 := b2.ld16 (by simp)
    obtain ⟨H4, q1, q2, q3⟩ := b1.put16 (s := []) (by simp)
    have l4 := q2.ld16 (by simp)
    simp -implicitDefEqProofs only [l3, l4, q1, u8s16 (s := []) (by simp), eqA, eqD, go_sem]
    exact ⟨by simp [keyV, keyL, hr], s13.ch (by omega) q3⟩
  | true =>
    have h16 := right_len hr
    have hk : keyL s = s := by simp [keyL, hr]
    obtain ⟨H4, q1, q2, q3⟩ := b2.copy16 h16
    have l4 := q2.ld16 h16
    have b1 := b1.keep' (H' := H4) (by have := q3.1; omega) (q3.2 _ (by omega))
    obtain ⟨H5, q4, q5, q6⟩ := b1.put16 h16
    have l5 := q5.ld16 h16
    have hsl : slA H1.next 0 1 16 true none none none = some (.slice (some (H1.next, 0)) 1 16 true) := rfl
    obtain ⟨-, c, hc, -⟩ := id b2
    have hsrc : srcA H3 1 true (.str s) = some (u8s s, s.length) := rfl
    have hne : s.length ≠ 0 := by intro e; have := List.eq_nil_of_length_eq_zero e; subst this; simp [rightP, ofSignsP, wordP] at hr
    have htk : (u8s s).take s.length = u8s s := List.take_of_length_le (by rw [u8s_len]; omega)
    simp -implicitDefEqProofs only [l4, l5, q1, q4, hsl, hc, hsrc, Nat.min_eq_left h16, hne, htk, u8s16 h16, Bool.false_eq_true, Nat.le_refl, eqA, eqD, go_sem]
    exact ⟨by rw [keyV, hk], (s13.ch (by omega) q3).ch (by omega) q6⟩
attribute [local go_sem ↓] exA_lookup stepA_lookup exA_mapUpd WP_seq WP_skip WP_region WP_dregion WP_cond WP_block WP_exit WP_ret OW_nil OW_cons DW_nil DW_cons XW_call reduceIte OW_guard DW_guard
attribute [local go_sem] LkA_some EvA_some updM_some at0 at1 XW exA KO_eq OptK_some EvK_some GW2_true GW2_false KS_normal KS_ret KS_exit KB_normal KB_ret KB_exit CP2_bool RP_ret putA_some putA_none ev_t ev_c evs evo wantA initA resA Tr.get_set vl chkOk cond_true cond_false Nat.add_zero Nat.mul_one Nat.one_mul Nat.zero_add Nat.zero_mul aggOf pInt binA unA intA beq_true beq_false Bool.not_true Bool.not_false Bool.not_eq_true and_self and_true true_and reduceIte Nat.reduceEqDiff Nat.succ_ne_self Nat.reduceAdd Nat.reduceMul Nat.reduceSub Nat.reduceBEq Nat.reduceLT Nat.reduceLeDiff Int.cast_ofNat_Int Int.reduceToNat Int.reduceLT Int.reduceLE Int.reduceGE Int.reduceGT Int.reduceEq Int.reduceNe Int.reduceAdd Int.reduceSub Int.reduceNeg decide_true decide_false Int.toNat_natCast reduceCtorEq List.nil_append List.cons_append AV.boxy AV.cells List.length_cons List.length_nil Nat.beq_refl AOp.cl KDW_0 KDW_1 KDW_2 OWskip_eq DWskip_eq fillA setAt DChk DAt stepA ble_dec beq_dec Bool.and_self Bool.and_true Bool.true_and Bool.and_false Bool.false_and List.take_succ_cons List.take_zero List.drop_succ_cons List.drop_zero List.take_nil List.drop_nil List.append_nil eqAV eqAVL BEq.rfl sameS Option.map Option.isNone wrap64 gt_iff_lt ge_iff_le Int.lt_irrefl Int.le_refl
set_option maxHeartbeats 2000000
abbrev Key16 := { k : List Nat // k.length = 16 }
def kK (k : Key16) : AV := .agg (u8s k.1)
def vN (n : Nat) : AV := .int .i64 (n : Int)
def prtL : Nat → Nat → List (Nat × Nat × ESh)
  | _, 0 => []
  | k, n + 1 => (k, 1, .sc .int) :: prtL (k + 1) n
abbrev sh16 : ESh := .parts [(0, 1, .sc .int), (1, 1, .sc .int), (2, 1, .sc .int), (3, 1, .sc .int), (4, 1, .sc .int), (5, 1, .sc .int), (6, 1, .sc .int), (7, 1, .sc .int), (8, 1, .sc .int), (9, 1, .sc .int), (10, 1, .sc .int), (11, 1, .sc .int), (12, 1, .sc .int), (13, 1, .sc .int), (14, 1, .sc .int), (15, 1, .sc .int)]
theorem sh16_eq : sh16 = .parts (prtL 0 16) := rfl
theorem u8s_one {a : List Nat} {k : Nat} (h : k < a.length) : aggOf false (((u8s a).drop k).take 1) = some (.int .u8 (a[k] : Int)) := by
  have : (u8s a)[k]? = some (.int .u8 (a[k] : Int)) := by unfold u8s; rw [List.getElem?_map, List.getElem?_eq_getElem h]; rfl
  obtain ⟨q, e⟩ := List.getElem?_eq_some_iff.1 this
  rw [List.drop_eq_getElem_cons q, e]; rfl
theorem eqPl_u8 {a b : List Nat} : ∀ (n k : Nat), a.length = k + n → b.length = k + n → eqPl (eqD 5) (prtL k n) (u8s a) (u8s b) = some (decide (a.drop k = b.drop k))
  | 0, k, h1, h2 => by
    have e1 : a.drop k = [] := List.drop_eq_nil_of_le (by omega)
    have e2 : b.drop k = [] := List.drop_eq_nil_of_le (by omega)
    simp [prtL, eqPl, e1, e2]
  | n + 1, k, h1, h2 => by
    have ih := eqPl_u8 (a := a) (b := b) n (k + 1) (by omega) (by omega)
    have d1 : a.drop k = a[k]'(by omega) :: a.drop (k + 1) := List.drop_eq_getElem_cons (by omega)
    have d2 : b.drop k = b[k]'(by omega) :: b.drop (k + 1) := List.drop_eq_getElem_cons (by omega)
    have e0 : ESh.isParts (.sc .int) = false := rfl
    simp only [prtL, eqPl, e0, u8s_one (a := a) (k := k) (by omega), u8s_one (a := b) (k := k) (by omega), ih]
    rw [d1, d2]
    generalize a[k]'(by omega) = x
    generalize b[k]'(by omega) = y
    have e1 : eqD 5 (.sc .int) (.int .u8 (x : Int)) (.int .u8 (y : Int)) = some ((x : Int) == (y : Int)) := by simp [eqD, sameS]
    rw [e1]
    by_cases hxy : x = y
    · subst hxy; simp
    · have : ((x : Int) == (y : Int)) = false := by simp; omega
      rw [this]; simp [hxy]
theorem eqA_u8 {a b : List Nat} (ha : a.length = 16) (hb : b.length = 16) : eqA sh16 (.agg (u8s a)) (.agg (u8s b)) = some (decide (a = b)) := by
  have := eqPl_u8 (a := a) (b := b) 16 0 (by omega) (by omega)
  rw [List.drop_zero, List.drop_zero] at this
  rw [sh16_eq]
  exact this
theorem bitsL_u8 : ∀ l : List Nat, bitsL (u8s l) (u8s l) = true
  | [] => rfl
  | x :: l => by
    show (bits1 (.int .u8 (x : Int)) (.int .u8 (x : Int)) && bitsL (u8s l) (u8s l)) = true
    rw [bitsL_u8 l]; simp [bits1]
theorem keyed16 : Keyed (κ := Key16) sh16 kK := ⟨fun a b => by
    unfold kK
    rw [eqA_u8 a.2 b.2]
    congr 1
    rw [Bool.eq_iff_iff]
    simp [Subtype.ext_iff], fun a => bitsL_u8 a.1⟩
section
variable {κ ν : Type} [DecidableEq κ] {sh : ESh} {kc : κ → AV} {vc : ν → AV} {H : AHeap} {r : Nat} {f : κ → Option ν}
theorem MR.look (h : MR kc vc H r f) (hk : Keyed sh kc) (k : κ) {zero : AV} {z : ν} (hz : vc z = zero) {ok : Bool} : lookA sh zero ok H r (kc k) = some (bif ok then .tuple [vc ((f k).getD z), .bool (f k).isSome] else vc ((f k).getD z), H) := by
  cases hf : f k with
  | none => rw [h.look_no hk hf, ← hz]; rfl
  | some v => rw [h.look_yes hk hf]; rfl
omit [DecidableEq κ] in
theorem MR.lt' (h : MR kc vc H r f) : r < H.next := by
  obtain ⟨l, c, h⟩ := h
  exact h.lt
end
def keysC (l : List (List Nat)) : List AV := l.flatMap fun s => u8s (padL s)
def fN (l : List (List Nat)) (k : Key16) : Option Nat := l.findIdx? fun s => padL s == k.1
def gN (r : Nat) (l : List (List Nat)) : Nat → SV := fun i => if i = 0 then .sl 16 l.length (keysC l) else .sc (.map (some r))
structure NamR (H : AHeap) (b r : Nat) (D : Nat → Prop) (l : List (List Nat)) : Prop where
  q : ∃ f, QC H b 2 f D (gN r l)
  m : MR kK vN H r (fN l)
  rd : ¬ D r
  rb : r ≠ b
  ok : ∀ s, s ∈ l → rightP s = true ∧ ByL s
  len : l.length ≤ 48
def key16 (s : List Nat) : Key16 := ⟨padL (keyL s), padL_len (keyL_len s)⟩
theorem padL_inj {s s' : List Nat} (h : rightP s = true) (h' : rightP s' = true) (e : padL s = padL s') : s = s' := by
  rw [← take_pad (right_nz h), e, take_pad (right_nz h')]
theorem findIdx?_congr {α : Type} {p q : α → Bool} : ∀ {l : List α}, (∀ x, x ∈ l → p x = q x) → l.findIdx? p = l.findIdx? q
  | [], _ => rfl
  | x :: l, h => by
    rw [List.findIdx?_cons, List.findIdx?_cons, h x (List.mem_cons_self ..), findIdx?_congr fun y hy => h y (List.mem_cons_of_mem _ hy)]
theorem fN_key {l : List (List Nat)} (hl : ∀ s, s ∈ l → rightP s = true ∧ ByL s) {s : List Nat} (hs : rightP s = true) : fN l (key16 s) = l.findIdx? (· == s) := by
  have hk : (key16 s).1 = padL s := by simp [key16, keyL, hs]
  unfold fN
  rw [hk]
  refine findIdx?_congr fun x hx => ?_
  rw [Bool.eq_iff_iff]
  simp only [beq_iff_eq]
  exact ⟨fun e => padL_inj (hl x hx).1 hs e, fun e => by rw [e]⟩
theorem fN_snoc {l : List (List Nat)} {s : List Nat} (hs : rightP s = true) (hn : fN l (key16 s) = none) : fN (l ++ [s]) = fset (fN l) (key16 s) (some l.length) := by
  funext k
  have hk : (key16 s).1 = padL s := by simp [key16, keyL, hs]
  by_cases e : k = key16 s
  · subst e
    rw [fset_same]
    unfold fN at hn ⊢
    rw [List.findIdx?_append, hn]
    simp [hk]
  · rw [fset_ne e]
    unfold fN
    rw [List.findIdx?_append]
    have : (padL s == k.1) = false := by
      simp only [beq_eq_false_iff_ne]
      intro e'
      exact e (Subtype.ext (by rw [hk, e']))
    simp [List.findIdx?_cons, this]
theorem NamR.lds {H : AHeap} {b r : Nat} {D : Nat → Prop} {l : List (List Nat)} (h : NamR H b r D l) : ∃ v0, Sl H D 16 v0 l.length (keysC l) ∧ loadA H b 0 1 = some [v0] ∧ loadA H b 1 1 = some [.map (some r)] := by
  obtain ⟨f, q⟩ := h.q
  refine ⟨f 0, q.sl (i := 0) (by omega) rfl, q.load (by omega), ?_⟩
  rw [q.load (i := 1) (by omega), q.sc (i := 1) (by omega) (v := .map (some r)) rfl]
theorem NamR.keep {H H' : AHeap} {b r : Nat} {D : Nat → Prop} {l : List (List Nat)} (h : NamR H b r D l) (hl : H.next ≤ H'.next) (hg : ∀ y, y < H.next → y = b ∨ y = r ∨ D y → H'.get y = H.get y) : NamR H' b r D l := by
  obtain ⟨f, q⟩ := h.q
  exact ⟨⟨f, q.step hl (hg b q.blk.1 (.inl rfl)) fun x hx => hg x (q.dn x hx) (.inr (.inr hx))⟩, h.m.keep hl (hg r h.m.lt' (.inr (.inl rfl))), h.rd, h.rb, h.ok, h.len⟩
theorem NamR.sm {H H' : AHeap} {b r : Nat} {D : Nat → Prop} {l : List (List Nat)} (h : NamR H b r D l) (s : Sm H H') : NamR H' b r D l := h.keep s.1 fun _ hy _ => s.gt hy
def Els (H H' : AHeap) (b r : Nat) (D : Nat → Prop) : Prop := H.next ≤ H'.next ∧ ∀ y, y < H.next → y ≠ b → y ≠ r → ¬ D y → H'.get y = H.get y
theorem slice_len {H : AHeap} {D : Nat → Prop} {s n : Nat} {v : AV} {cs : List AV} (h : Sl H D s v n cs) : ∃ a cl s', v = .slice a s' n cl := by
  rcases h with ⟨⟨s0, rfl⟩, -, rfl⟩ | ⟨x, i, cl, rfl, -⟩
  · exact ⟨none, true, s0, rfl⟩
  · exact ⟨some (x, i), cl, s, rfl⟩
theorem c_NewN (H : AHeap) : CW MN 83 [] H fun v H' => ∃ b r, v = .ptr (some (b, 0)) ∧ NamR H' b r (fun _ => False) [] ∧ H.next ≤ b ∧ H.next ≤ r ∧ Sm H H' := by
  refine CW_of (fn := af83) rfl ?_
  dsimp only [af83, qm, q, qG, qn, qi, qb, qB, qk, qc, qo, qg, qv, qr]
  simp -implicitDefEqProofs only [List.take_succ_cons, List.take_zero, List.drop_succ_cons, List.drop_zero, List.append_nil, List.drop_nil, eqA, eqD, go_sem]
  have k0 := MR.new (kc := kK) (vc := vN) H
  have n1 : (H.new (.map [] 0)).next = H.next + 1 := rfl
  have s1 := Chg.new H (.map [] 0)
  generalize eH1 : H.new (.map [] 0) = H1 at k0 n1 s1
  have s2 := Chg.newRow H1 [.slice none 1 0 true, .map (some H.next)]
  have b2 := Blk.new H1 [.slice none 1 0 true, .map (some H.next)] (n := 2) rfl
  refine ⟨_, H.next, rfl, ⟨⟨_, b2, by simp, by simp, fun i hi => ?_, fun i j x hi hj hij h1 h2 => ?_⟩, ?_, by simp, by omega, by simp, by simp⟩, by omega, Nat.le_refl _, s1.trans s2⟩
  · match i, hi with
    | 0, _ => exact .inl ⟨⟨1, rfl⟩, rfl, rfl⟩
    | 1, _ => exact ⟨rfl, rfl⟩
  · match i, hi with
    | 0, _ => cases h1
    | 1, _ => cases h1
  · have : fN [] = fun _ => none := by funext k; rfl
    rw [this]
    exact k0.keep s2.1 (s2.gt (by omega))
set_option maxHeartbeats 2000000
theorem loc16 (H : AHeap) {s : List Nat} (hs : s.length ≤ 16) : ∃ H2, storeA (H.newRow (u8s (padL []))) H.next 0 (u8s (padL s)) = some H2 ∧ Blk H2 H.next 16 (kf s) ∧ Sm H H2 ∧ H2.next = H.next + 1 := by
  obtain ⟨H2, q1, q2, q3⟩ := (Blk.new16 H).put16 hs
  have s1 := Chg.newRow H (u8s (padL []))
  have hn1 : (H.newRow (u8s (padL []))).next = H.next + 1 := rfl
  exact ⟨H2, q1, q2, s1.ch (by omega) q3, by rw [q3.1, hn1]⟩
theorem eqAVL_u8 : ∀ l : List Nat, eqAVL (u8s l) (u8s l) = true
  | [] => rfl
  | x :: l => by
    show (eqAV (.int .u8 (x : Int)) (.int .u8 (x : Int)) && eqAVL (u8s l) (u8s l)) = true
    rw [eqAVL_u8 l]; simp [eqAV]
def idxP (l : List (List Nat)) (s : List Nat) : Option Nat := l.findIdx? (· == s)
theorem keysC_append (l l' : List (List Nat)) : keysC (l ++ l') = keysC l ++ keysC l' := by simp [keysC]
set_option maxHeartbeats 2000000
def internP (l : List (List Nat)) (s : List Nat) : Int × List (List Nat) :=
  if rightP s then (match idxP l s with
    | some i => ((i : Int), l)
    | none => if 48 ≤ l.length then (-1, l) else ((l.length : Int), l ++ [s]))
  else (-1, l)
theorem Ex.mono' {D : Nat → Prop} {H H1 H2 : AHeap} (hl : H.next ≤ H1.next) {x : Nat} (h : Ex D H1 H2 x) : Ex D H H2 x := by
  rcases h with h | h
  · exact .inl h
  · exact .inr ⟨by omega, h.2⟩
theorem NamR.ex {H H' : AHeap} {b r : Nat} {D : Nat → Prop} {l : List (List Nat)} (h : NamR H b r D l) (s : Sm H H') : NamR H' b r (Ex D H H') l := by
  have h' := h.sm s
  obtain ⟨f, q⟩ := h'.q
  obtain ⟨f0, q0⟩ := h.q
  have hb := q0.blk.1
  have hr := h.m.lt'
  refine ⟨⟨f, q.mono (fun x hx => .inl hx) ?_ ?_⟩, h'.m, ?_, h.rb, h.ok, h.len⟩
  · rintro (h1 | h1)
    · exact q.nb h1
    · omega
  · rintro x (h1 | h1)
    · exact q.dn x h1
    · exact h1.2
  · rintro (h1 | h1)
    · exact h.rd h1
    · omega
theorem Els.of_sm {H H' : AHeap} {b r : Nat} {D : Nat → Prop} (s : Sm H H') : Els H H' b r D := ⟨s.1, fun _ hy _ _ _ => s.gt hy⟩
theorem c_Intern {H : AHeap} {b r : Nat} {D : Nat → Prop} {l : List (List Nat)} (h : NamR H b r D l) {s : List Nat} (hs : ByL s) (hn : s.length ≤ 9223372036854775807) : CW MN 84 [.ptr (some (b, 0)), .str s] H fun v H' => v = .int .i64 (internP l s).1 ∧ NamR H' b r (Ex D H H') (internP l s).2 ∧ Els H H' b r D := by
  refine CW_of (fn := af84) rfl ?_
  dsimp only [af84, qm, q, qG, qn, qi, qb, qB, qk, qc, qo, qg, qv, qr]
  simp -implicitDefEqProofs only [eqA, eqD, go_sem]
  refine CW.mono (c_Of hs hn) ?_
  rintro v H1 ⟨rfl, s1⟩
  obtain ⟨H2, q1, q2, s2, hn2⟩ := loc16 H1 (keyL_len s)
  have hk := u8s16 (keyL_len s)
  have h2 := (h.sm s1).sm s2
  obtain ⟨v0, hsl, l0, l1⟩ := h2.lds
  have l5 := q2.ld16 (keyL_len s)
  have e0 : lookA sh16 (.int .i64 0) true H2 r (.agg (u8s (padL (keyL s)))) = _ := h2.m.look keyed16 (key16 s) (z := 0) rfl
  have s12 := s1.trans s2
  simp -implicitDefEqProofs only [z16, keyV, hk, q1, l1, l5, e0, eqAVL_u8, vN, eqA, eqD, go_sem]
  cases hr : rightP s with
  | false =>
    simp -implicitDefEqProofs only [eqA, eqD, go_sem]
    rw [show internP l s = (-1, l) by simp [internP, hr]]
    exact ⟨rfl, h.ex s12, Els.of_sm s12⟩
  | true =>
    have hks : keyL s = s := by simp [keyL, hr]
    have hfk := fN_key h.ok hr
    rw [hfk]
    cases hi : l.findIdx? (· == s) with
    | some i =>
      simp -implicitDefEqProofs only [Option.isSome_some, Option.getD_some, Bool.false_eq_true, eqA, eqD, go_sem]
      rw [show internP l s = ((i : Int), l) by simp [internP, idxP, hr, hi]]
      exact ⟨rfl, h.ex s12, Els.of_sm s12⟩
    | none =>
      obtain ⟨a, cl, s', rfl⟩ := slice_len hsl
      by_cases h48 : (48 : Int) ≤ (l.length : Int)
      · simp -implicitDefEqProofs only [Option.isSome_none, Bool.false_eq_true, l0, h48, eqA, eqD, go_sem]
        rw [show internP l s = (-1, l) by simp [internP, idxP, hr, hi]; omega]
        exact ⟨rfl, h.ex s12, Els.of_sm s12⟩
      · have hlt : l.length < 48 := by omega
        -- the map
        obtain ⟨H3, u1, u2, u3⟩ := h2.m.upd keyed16 (key16 s) l.length
        have u1' : updA sh16 H2 (.int .i64 (l.length : Int)) r (.agg (u8s (padL (keyL s)))) = some (.tuple [], H3) := u1
        have hn3 := u3.1
        have hrlt := h.m.lt'
        obtain ⟨f, qc⟩ := h2.q
        obtain ⟨f0, qc0⟩ := h.q
        have hblt := qc0.blk.1
        have hf0 : f 0 = .slice a s' l.length cl := by
          have := qc.load (i := 0) (by omega)
          rw [l0] at this
          exact ((List.cons.inj (Option.some.inj this)).1).symm
        have hf1 : f 1 = .map (some r) := qc.sc (i := 1) (by omega) rfl
        have qc3 : QC H3 b 2 f D (gN r l) := qc.step (by omega) (u3.2 b (Ne.symm h.rb)) fun x hx => u3.2 x (fun e => h.rd (e ▸ hx))
        have l0' : loadA H3 b 0 1 = some [.slice a s' l.length cl] := by rw [u3.load (Ne.symm h.rb), l0]
        have l1' : loadA H3 b 1 1 = some [.map (some r)] := by rw [u3.load (Ne.symm h.rb), l1]
        have l5' : loadA H3 H1.next 0 16 = some (u8s (padL (keyL s))) := by rw [u3.load (by have := s1.1; omega), l5]
        -- the row
        obtain ⟨Ha, Hb, p1, p2, p3, p4, p5, p6⟩ := qc3.push (i := 0) (bytes := 16) (ys := u8s (padL (keyL s))) (by omega) (s := 16) (m := l.length) (cs := keysC l) rfl hk (by omega) (by omega)
        rw [hf0] at p1
        have sN := Chg.newRow H3 (u8s (padL (keyL s)))
        have la := p3 0 (by omega)
        have lb := p4 0 (by omega)
        rw [hf0] at la lb
        have l5a : loadA (H3.newRow (u8s (padL (keyL s)))) H1.next 0 16 = some (u8s (padL (keyL s))) := by rw [sN.ld (by omega), l5']
        have hfill : List.drop 16 (u8s (padL [])) = [] := rfl
        have hn12 := s12.1
        have hz16 : (u8s (padL [])).length = 16 := rfl
        have hmap : fset (fN l) (key16 s) (some l.length) = fN (l ++ [s]) := (fN_snoc hr (by rw [hfk, hi])).symm
        rw [hmap] at u2
        have hfp : ∀ y, y < H3.next → y ≠ b → ¬ D y → Hb.get y = H3.get y := p6.2
        have hHb : H3.next ≤ Hb.next := p6.1
        have h5 : loadA Hb b 1 1 = some [.map (some r)] := by
          have := p5.load (i := 1) (by omega)
          rw [upd_ne (by omega), hf1] at this
          exact this
        have m5 : MR kK vN Hb r (fN (l ++ [s])) := u2.keep hHb (hfp r (by omega) h.rb h.rd)
        have hne1 : ¬ D H1.next := fun hd => by have := qc0.dn _ hd; have := s1.1; omega
        have l5b : loadA Hb H1.next 0 16 = some (u8s (padL (keyL s))) := by rw [loadA_congr (hfp _ (by omega) (by have := s1.1; omega) hne1), l5']
        have e5 : lookA sh16 (.int .i64 0) false Hb r (.agg (u8s (padL (keyL s)))) = some (.int .i64 (l.length : Int), Hb) := by
          have := m5.look keyed16 (key16 s) (z := 0) (zero := .int .i64 0) rfl (ok := false)
          have e : (fN (l ++ [s]) (key16 s)).getD 0 = l.length := by rw [← hmap, fset_same]; rfl
          rw [e] at this
          exact this
        simp -implicitDefEqProofs only [Option.isSome_none, Bool.false_eq_true, l0, l1, l5, h48, u1', l0', l1', l5', hz16, hfill, hk, p1, la, lb, l5a, p2, h5, e5, l5b, eqAVL_u8, eqA, eqD, go_sem]
        rw [show internP l s = ((l.length : Int), l ++ [s]) by simp [internP, idxP, hr, hi]; omega]
        refine ⟨rfl, ⟨⟨upd f 0 (.slice (some (H3.next + 1, 0)) 16 (l.length + 1) false), ?_⟩, m5, ?_, h.rb, ?_, by simp; omega⟩, ⟨by omega, fun y hy hyb hyr hyd => ?_⟩⟩
        · have p7 := p5.mono (D' := Ex D H Hb) (fun x hx => Ex.mono' (H1 := H3) (by omega) hx) (by
            rintro (hd | hd)
            · exact qc.nb hd
            · omega) (by
            rintro x (hd | hd)
            · have := qc0.dn x hd; omega
            · exact hd.2)
          have eg : upd (gN r l) 0 (.sl 16 (l.length + 1) (keysC l ++ u8s (padL (keyL s)))) = gN r (l ++ [s]) := by
            funext i
            by_cases e : i = 0
            · subst e
              rw [upd_same, gN, if_pos rfl, keysC_append, hks]
              simp [keysC]
            · rw [upd_ne e, gN, gN, if_neg e, if_neg e]
          rw [eg] at p7
          exact p7
        · rintro (hd | hd)
          · exact h.rd hd
          · omega
        · intro t ht
          rcases List.mem_append.1 ht with ht | ht
          · exact h.ok t ht
          · obtain rfl : t = s := by simpa using ht
            exact ⟨hr, hs⟩
        · rw [hfp y (by omega) hyb hyd, u3.2 y hyr, s12.gt hy]
end Go.Proofs.YtojeldemfccilaaGreatDoor.AA
