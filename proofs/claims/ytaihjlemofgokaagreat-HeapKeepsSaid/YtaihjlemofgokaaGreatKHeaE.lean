/- The memory: scans, flips, new objects; chapter 9's run. -/
import Derived.Test.YtaihjlemofgokaaGreatKHeaD
set_option linter.unusedSimpArgs false
set_option linter.unusedVariables false
namespace Go.Proofs.YtaihjlemofgokaaGreat.AA
open Go Go.RowKit
attribute [local go_sem ↓] exA_lookup stepA_lookup exA_mapEnt exA_entSt exA_delete exA_mapUpd WP_seq WP_skip WP_region WP_dregion WP_cond WP_block WP_exit WP_ret OW_nil OW_cons DW_nil DW_cons XW_call reduceIte OW_guard DW_guard
attribute [local go_sem] LkA_some EvA_some entL_some updM_some at0 at1 at2 XW exA KO_eq OptK_some EvK_some GW2_true GW2_false KS_normal KS_ret KS_exit KB_normal KB_ret KB_exit CP2_bool RP_ret RP_normal putA_some putA_none ev_t ev_c evs evo wantA initA resA Tr.get_set vl chkOk cond_true cond_false Nat.add_zero Nat.mul_one Nat.one_mul Nat.zero_add Nat.zero_mul aggOf pInt binA unA intA beq_true beq_false Bool.not_true Bool.not_false Bool.not_eq_true and_self and_true true_and reduceIte Nat.reduceEqDiff Nat.succ_ne_self Nat.reduceAdd Nat.reduceMul Nat.reduceSub Nat.reduceBEq Nat.reduceLT Nat.reduceLeDiff Int.cast_ofNat_Int Int.reduceToNat Int.reduceLT Int.reduceLE Int.reduceGE Int.reduceGT Int.reduceEq Int.reduceNe Int.reduceAdd Int.reduceSub Int.reduceNeg decide_true decide_false Int.toNat_natCast reduceCtorEq List.nil_append List.cons_append AV.boxy AV.cells List.length_cons List.length_nil Nat.beq_refl AOp.cl KDW_0 KDW_1 KDW_2 OWskip_eq DWskip_eq fillA setAt DChk DAt stepA ble_dec beq_dec Bool.and_self Bool.and_true Bool.true_and Bool.and_false Bool.false_and List.take_succ_cons List.take_zero List.drop_succ_cons List.drop_zero List.take_nil List.drop_nil List.append_nil eqAV eqAVL BEq.rfl sameS Option.map Option.isNone wrap64 gt_iff_lt ge_iff_le Int.lt_irrefl Int.le_refl
set_option maxRecDepth 100000
set_option maxHeartbeats 4000000
attribute [local irreducible] Tr.set
def greyI (h : HM) : Int := match greyM h with
  | some s => (s : Int)
  | none => -1
section
variable {A : PA} {n : Nat → Nat} {H : AHeap} {h : HM} {F : Nat → Nat → AV} {g : TG} {M : Nat → Ml}
theorem HB.ld5 (hB : HB A n H g M F) : ∃ L, loadA H A.b 5 5 = some L ∧ ∀ k, k < 5 → (L.drop k).take 1 = [hb A n (5 + k)] := by
  refine ⟨[hb A n 5, hb A n 6, hb A n 7, hb A n 8, hb A n 9], (hB.blk.rd (i := 5) (vs := [hb A n 5, hb A n 6, hb A n 7, hb A n 8, hb A n 9]) (by simp) fun j v hj => ?_).load rfl, fun k hk => ?_⟩
  · match j, hj with
    | 0, hj => simpa using hj
    | 1, hj => simpa using hj
    | 2, hj => simpa using hj
    | 3, hj => simpa using hj
    | 4, hj => simpa using hj
  · match k, hk with
    | 0, _ => rfl
    | 1, _ => rfl
    | 2, _ => rfl
    | 3, _ => rfl
    | 4, _ => rfl
theorem hb_mill {k : Nat} (hk : k < 5) : hb A n (5 + k) = if n k = 0 then .ptr none else .ptr (some ((A.ml k).mb, 0)) := by
  unfold hb
  rw [if_neg (by omega), if_pos (by omega), show 5 + k - 5 = k by omega]
theorem HOk.emp (ok : HOk n h) {s : Nat} (hs : s < 5) (hn : n s = 0) {k : Nat} (hk : k < 4) : h.M s k = [] := by
  cases hm : h.M s k with
  | nil => rfl
  | cons c l =>
    have := (ok.mill s hs).inn k c hk (by rw [hm]; simp)
    omega
theorem c_greyB (ok : HOk n h) (hb : HB A n H h.g h.M F) : CW MN 63 [.ptr (some (A.b, 0))] H fun v H' => v = .int .i64 (greyI h) ∧ H' = H := by
  refine CW_of (fn := af63) rfl ?_
  dsimp only [af63, qm, q, qG, qn, qi, qb, qB, qk, qc, qo, qg, qv, qr]
  obtain ⟨L, hL, hd⟩ := hb.ld5
  simp -implicitDefEqProofs only [hL, eqA, eqD, go_sem]
  refine WP_loop (fun m fr H' => ∃ k : Nat, m = 5 - k ∧ k ≤ 5 ∧ (∀ t, t < k → h.M t 2 = []) ∧ fr.get 0 = some (.ptr (some (A.b, 0))) ∧ fr.get 8 = some (.agg L) ∧ fr.get 9 = some (.int .i64 k) ∧ H' = H) 5 ?_ ?_
  · refine ⟨0, rfl, by omega, fun t ht => by omega, ?_⟩
    simp -implicitDefEqProofs only [eqA, eqD, go_sem]
  · rintro m fr H' ⟨k, hm, hk, hno, g0, g8, g9, rfl⟩
    have k0 : (0 : Int) ≤ k := by omega
    by_cases hlt : k < 5
    · have hlt' : (k : Int) < 5 := by omega
      have hw := wrapS hlt (by omega)
      have hdk := hd k hlt
      rw [hb_mill hlt] at hdk
      by_cases hn : n k = 0
      · rw [if_pos hn] at hdk
        simp -implicitDefEqProofs only [g0, g8, g9, hlt', k0, hdk, hw, bne_self_eq_false, Bool.false_eq_true, eqA, eqD, go_sem]
        refine ⟨5 - (k + 1), by omega, k + 1, rfl, by omega, fun t ht => ?_, rfl⟩
        by_cases e : t = k
        · subst e; exact ok.emp hlt hn (by omega)
        · exact hno t (by omega)
      · rw [if_neg hn] at hdk
        simp -implicitDefEqProofs only [g0, g8, g9, hlt', k0, hdk, eqA, eqD, go_sem]
        refine CW.mono (c_mCount (hb.mil k hlt hn) (k := 2) (by omega)) ?_
        rintro v H' ⟨rfl, rfl⟩
        by_cases he : h.M k 2 = []
        · have e0 : (((h.M k 2).length : Nat) : Int) = 0 := by rw [he]; rfl
          simp -implicitDefEqProofs only [g0, g8, g9, e0, hw, Int.lt_irrefl, Bool.false_eq_true, eqA, eqD, go_sem]
          refine ⟨5 - (k + 1), by omega, k + 1, rfl, by omega, fun t ht => ?_, rfl⟩
          by_cases e : t = k
          · subst e; exact he
          · exact hno t (by omega)
        · have e0 : (0 : Int) < (((h.M k 2).length : Nat) : Int) := by
            have := List.length_pos_iff.2 he
            omega
          have eg : greyI h = k := by unfold greyI; rw [greyM_of_some hlt he hno]
          simp -implicitDefEqProofs only [g0, g8, g9, e0, eg, eqA, eqD, go_sem]
    · obtain rfl : k = 5 := by omega
      have e5 : ¬ ((5 : Nat) : Int) < 5 := by omega
      have eg : greyI h = -1 := by unfold greyI; rw [greyM_of_none hno]
      simp -implicitDefEqProofs only [g0, g8, g9, e5, eg, Int.lt_irrefl, Bool.false_eq_true, eqA, eqD, go_sem]
theorem c_DoneB (ok : HOk n h) (hb : HB A n H h.g h.M F) : CW MN 34 [.ptr (some (A.b, 0))] H fun v H' => v = .bool (greyM h).isNone ∧ H' = H := by
  refine CW_of (fn := af34) rfl ?_
  dsimp only [af34, qm, q, qG, qn, qi, qb, qB, qk, qc, qo, qg, qv, qr]
  simp -implicitDefEqProofs only [eqA, eqD, go_sem]
  refine CW.mono (c_greyB ok hb) ?_
  rintro v H' ⟨rfl, rfl⟩
  unfold greyI
  cases greyM h with
  | none => simp -implicitDefEqProofs only [Option.isNone_none, eqA, eqD, go_sem]
  | some s =>
    have : ¬ (s : Int) < 0 := by omega
    simp -implicitDefEqProofs only [this, Option.isNone_some, eqA, eqD, go_sem]
theorem c_Done (hr : HR A n H h) : CW MN 34 [.ptr (some (A.b, 0))] H fun v H' => v = .bool (greyM h).isNone ∧ H' = H := by
  obtain ⟨F, hb, cx, ci⟩ := hr.hb
  exact c_DoneB hr.ok hb
theorem c_IDsH (hr : HR A n H h) : CW MN 33 [.ptr (some (A.b, 0))] H fun v H' => Sv H' v (idsI h.g).length (ivs (idsI h.g)) ∧ Sm H H' := by
  refine CW_of (fn := af33) rfl ?_
  dsimp only [af33, qm, q, qG, qn, qi, qb, qB, qk, qc, qo, qg, qv, qr]
  obtain ⟨F, hb, cx, ci⟩ := hr.hb
  simp -implicitDefEqProofs only [hb.lds.1, eqA, eqD, go_sem]
  refine CW.mono (c_IDs hb.tab) ?_
  rintro v H' hh
  simp -implicitDefEqProofs only [eqA, eqD, go_sem]
  exact hh
theorem ofG_at {g : TG} (hi : Inj g) {i : Int} {p : Pl} (h : g i = some p) : ofG g p = some i := (ofG_iff hi p i).2 h
theorem fold_g (l : List Int) : ∀ h : HM, (l.foldl shadeM h).g = h.g ∧ (l.foldl shadeM h).X = h.X := by
  induction l with
  | nil => exact fun h => ⟨rfl, rfl⟩
  | cons w l ih =>
    intro h
    obtain ⟨e1, e2⟩ := ih (shadeM h w)
    obtain ⟨e3, e4⟩ := shadeM_g h w
    exact ⟨by rw [List.foldl_cons, e1, e3], by rw [List.foldl_cons, e2, e4]⟩
theorem c_Scan (hr : HR A n H h) (w : Int) : CW MN 21 [.ptr (some (A.b, 0)), .int .i64 w] H fun v H' => v = .int .i64 (scanM h w).1 ∧ HR A n H' (scanM h w).2 ∧ Evo A.d H H' := by
  refine CW_of (fn := af21) rfl ?_
  dsimp only [af21, qm, q, qG, qn, qi, qb, qB, qk, qc, qo, qg, qv, qr]
  obtain ⟨F0, hb0, -⟩ := hr.hb
  have hlim : mnL false (.int .i64 w) [.int .i64 1048576] = some (.int .i64 (min w 1048576)) := by
    simp only [mnL, mnA, cond_false]
    by_cases c : (1048576 : Int) < w
    · rw [if_pos c, Int.min_eq_right (by omega)]
    · rw [if_neg c, Int.min_eq_left (by omega)]
  generalize hL : min w 1048576 = lim at *
  have hl : lim ≤ 1048576 := by omega
  simp -implicitDefEqProofs only [eqA, eqD, go_sem]
  refine CW.mono (c_greyB hr.ok hb0) ?_
  rintro v H' ⟨rfl, rfl⟩
  simp -implicitDefEqProofs only [eqA, eqD, go_sem]
  refine WP_mono (Q := fun ex fr H1 => ex = .exit 0 ∧ fr.get 5 = some (.int .i64 (scanM h w).1) ∧ HR A n H1 (scanM h w).2 ∧ Evo A.d H' H1) ?_ (WP_loop (fun m fr H1 => ∃ (j : Nat) (d : Int) (h1 : HM), m = 262144 - j ∧ j ≤ 262144 ∧ 4 * (j : Int) ≤ d ∧ d ≤ 1048640 ∧ scanN (262145 - j) lim d h1 = scanM h w ∧ fr.get 0 = some (.ptr (some (A.b, 0))) ∧ fr.get 1 = some (.int .i64 w) ∧ fr.get 5 = some (.int .i64 d) ∧ fr.get 6 = some (.int .i64 (greyI h1)) ∧ HR A n H1 h1 ∧ Evo A.d H' H1) 262144 ?_ ?_)
  · rintro ex fr H1 ⟨rfl, g5, hr1, ev1⟩
    simp -implicitDefEqProofs only [g5, eqA, eqD, go_sem]
    exact ⟨hr1, ev1⟩
  · refine ⟨0, 0, h, rfl, by omega, by omega, by omega, by unfold scanM; rw [hL], ?_⟩
    simp -implicitDefEqProofs only [eqA, eqD, go_sem]
    exact ⟨hr, Evo.refl _ _⟩
  · rintro m fr H1 ⟨j, d, h1, hm, hj, hd, hd2, hsc, g0, g1, g5, g6, hr1, ev1⟩
    rw [show 262145 - j = (262144 - j) + 1 by omega] at hsc
    unfold scanN at hsc
    cases hg : greyM h1 with
    | none =>
      rw [hg] at hsc
      have eg : greyI h1 = -1 := by unfold greyI; rw [hg]
      rw [eg] at g6
      simp -implicitDefEqProofs only [g0, g1, g5, g6, Bool.false_eq_true, eqA, eqD, go_sem]
      rw [← hsc]
      exact ⟨rfl, hr1, ev1⟩
    | some s =>
      rw [hg] at hsc
      dsimp only at hsc
      have eg : greyI h1 = s := by unfold greyI; rw [hg]
      rw [eg] at g6
      have s0 : (0 : Int) ≤ s := by omega
      obtain ⟨hs, hne, -⟩ := greyM_some hg
      have s5 : (s : Int) < 5 := by omega
      by_cases hdl : d < lim
      · rw [if_pos hdl] at hsc
        have hjlt : j < 262144 := by omega
        obtain ⟨F1, hb1, cx1, ci1⟩ := hr1.hb
        obtain ⟨c, cl, hcl⟩ : ∃ c cl, h1.M s 2 = c :: cl := by
          cases hh : h1.M s 2 with
          | nil => exact absurd hh hne
          | cons c cl => exact ⟨c, cl, rfl⟩
        have hns : n s ≠ 0 := fun e => hne (hr1.ok.emp hs e (by omega))
        have hcm : c ∈ h1.M s 2 := by rw [hcl]; simp
        obtain ⟨i, hi⟩ := hr1.ok.of s 2 c hs (by omega) (by omega) hcm
        have esc : scM (h1.M s) = (c, mv (h1.M s) c 1) := by unfold scM; rw [hcl]
        have hcb := (hr1.ok.mill s hs).inn 2 c (by omega) hcm
        obtain ⟨cN, rfl⟩ := Int.eq_ofNat_of_zero_le hcb.1
        have ok2 : HOk n { h1 with M := upd h1.M s (mv (h1.M s) cN 1) } := hr1.ok.move hs (j := 2) (by omega) (by omega) hcm (by omega) (by omega)
        have lm := hb1.ldM hs hns
        have l10 := hb1.lds.1
        simp -implicitDefEqProofs only [g0, g1, g5, g6, s0, s5, hlim, hdl, lm, l10, eqA, eqD, go_sem]
        refine CW.mono (c_mScan (hb1.mil s hs hns)) ?_
        rintro v H2 ⟨rfl, m2, ev2, nn2⟩
        rw [esc] at m2 ⊢
        have hb2 : HB A n H2 h1.g (upd h1.M s (mv (h1.M s) cN 1)) F1 := hb1.mill hs hns m2 ev2
        have lm2 := hb2.ldM hs hns
        have l102 := hb2.lds.1
        have evd2 : Evo A.d H1 H2 := (Evo.refl A.d H1).then ev2 fun x _ hx => by
          show A.T x ≠ 0
          rw [hb1.tl s hs hns x hx]; omega
        simp -implicitDefEqProofs only [g0, g1, g5, g6, s0, s5, l102, lm2, eqA, eqD, go_sem]
        refine CW.mono (c_Of hb2.tab s cN) ?_
        rintro v H3 ⟨rfl, s3⟩
        rw [ofG_at hr1.ok.inj hi]
        have hb3 := hb2.sm s3
        have lm3 := hb3.ldM hs hns
        have l103 := hb3.lds.1
        simp -implicitDefEqProofs only [g0, g1, g5, g6, s0, s5, lm, l10, lm2, l102, lm3, l103, Option.getD_some, Option.isSome_some, eqA, eqD, go_sem]
        let h2 : HM := { h1 with M := upd h1.M s (mv (h1.M s) cN 1) }
        have hi2 : h2.g i = some ((s : Int), (cN : Int)) := hi
        have cx2 : CX F1 h2 := cx1
        refine CW.mono (cf1 (h := h2) ok2 hb3 cx2 hi2) ?_
        rintro v H4 ⟨⟨cl4, rfl⟩, hb4, ev4⟩
        have ex2 : h2.X (s, cN) = h1.X (s, cN) := rfl
        obtain ⟨s', c', ep, -, hc, hn, -, hxl, -⟩ := hr1.ok.place hi
        obtain ⟨e1, e2⟩ := Prod.mk.inj ep
        obtain rfl : s = s' := by omega
        obtain rfl : cN = c' := by omega
        have hxw := (hr1.ok.x i _ hi).2.2
        have e1s : scan1 h1 s = (h1.X (s, cN)).2.foldl shadeM h2 := by
          unfold scan1; rw [esc]
        rw [ex2] at *
        generalize hx : h1.X (s, cN) = x at *
        obtain ⟨H5, q1, q2, q3, q4⟩ := store_new H4 [.int .i64 0, .int .i64 0, .int .i64 0] [.int .i64 x.1, .int .i64 x.2.length, .int .i64 s] rfl
        have hr5 : HR A n H5 h2 := ⟨ok2, F1, hb4.sm q3, cx2, ci1⟩
        have ev5 : Evo A.d H' H5 := ((ev1.then evd2 fun _ _ h => h).then (Evo.of_sm (D := A.d) s3) fun _ _ h => h).then (ev4.then (Evo.of_sm (D := A.d) q3) fun _ _ h => h) fun _ _ h => h
        have b2 : (cN + 1) * wds s ≤ n s * wds s := Nat.mul_le_mul_right _ hc
        have b5 : (cN + 1) * wds s = cN * wds s + wds s := by rw [Nat.add_mul, Nat.one_mul]
        obtain ⟨w0, w1⟩ := wds_bd hs
        simp -implicitDefEqProofs only [g0, g1, g5, g6, q1, eqA, eqD, go_sem]
        refine WP_mono (Q := fun ex fr H6 => ex = .exit 2 ∧ fr.get 0 = some (.ptr (some (A.b, 0))) ∧ fr.get 1 = some (.int .i64 w) ∧ fr.get 5 = some (.int .i64 d) ∧ fr.get 6 = some (.int .i64 s) ∧ fr.get 10 = some (.slice (some (A.w s, cN * wds s + 2)) 1 x.2.length cl4) ∧ HR A n H6 (x.2.foldl shadeM h2) ∧ Evo A.d H5 H6) ?_ (WP_loop (fun m fr H6 => ∃ t : Nat, m = x.2.length - t ∧ t ≤ x.2.length ∧ fr.get 0 = some (.ptr (some (A.b, 0))) ∧ fr.get 1 = some (.int .i64 w) ∧ fr.get 5 = some (.int .i64 d) ∧ fr.get 6 = some (.int .i64 s) ∧ fr.get 10 = some (.slice (some (A.w s, cN * wds s + 2)) 1 x.2.length cl4) ∧ fr.get 50 = some (.slice (some (A.w s, cN * wds s + 2)) 1 x.2.length cl4) ∧ fr.get 51 = some (.int .i64 x.2.length) ∧ fr.get 52 = some (.int .i64 t) ∧ HR A n H6 ((x.2.take t).foldl shadeM h2) ∧ Evo A.d H5 H6) x.2.length ?_ ?_)
        rotate_left
        · refine ⟨0, rfl, by omega, ?_⟩
          simp -implicitDefEqProofs only [g0, g1, g5, g6, eqA, eqD, go_sem]
          exact ⟨hr5, Evo.refl _ _⟩
        · rintro m fr H6 ⟨t, hm', ht, g0, g1, g5, g6, g10, g50, g51, g52, hr6, ev6⟩
          have t0 : (0 : Int) ≤ t := by omega
          by_cases hlt : t < x.2.length
          · have hlt' : (t : Int) < (x.2.length : Int) := by omega
            have hw := wrapS hlt (by omega)
            obtain ⟨F6, hb6, cx6, ci6⟩ := hr6.hb
            obtain ⟨eg6, eX6⟩ := fold_g (x.2.take t) h2
            have hu := hxw _ (List.getElem_mem hlt)
            obtain ⟨wN, hwN'⟩ := Int.eq_ofNat_of_zero_le (by omega : 0 ≤ x.2[t])
            have ld : loadA H6 (A.w s) (cN * wds s + 2 + t) 1 = some [.int .u32 (wN : Int)] := by
              have := (cx6 i _ (by rw [eg6]; exact hi2)).2 t x.2[t] (by rw [eX6]; show (h1.X (s, cN)).2[t]? = _; rw [hx]; exact List.getElem?_eq_getElem hlt)
              simp only [po, Int.toNat_natCast] at this
              rw [(hb6.wrd s hs).load (i := cN * wds s + 2 + t) (by omega), this, hwN']
            have hu2 : wN < 4294967296 := by omega
            simp -implicitDefEqProofs only [g0, g1, g5, g6, g10, g50, g51, g52, hlt', t0, ld, eqA, eqD, go_sem]
            refine CW.mono (c_shade hr6 hu2) ?_
            rintro v H7 ⟨hr7, ev7⟩
            have e : (x.2.take (t + 1)).foldl shadeM h2 = shadeM ((x.2.take t).foldl shadeM h2) wN := by
              rw [List.take_add_one, List.getElem?_eq_getElem hlt, hwN', Option.toList_some, List.foldl_append]; rfl
            simp -implicitDefEqProofs only [g0, g1, g5, g6, g10, g50, g51, g52, hw, eqA, eqD, go_sem]
            exact ⟨x.2.length - (t + 1), by omega, t + 1, rfl, by omega, rfl, by rw [e]; exact hr7, ev6.then ev7 fun _ _ h => h⟩
          · obtain rfl : t = x.2.length := by omega
            rw [List.take_length] at hr6
            simp -implicitDefEqProofs only [g0, g1, g5, g6, g10, g50, g51, g52, Int.lt_irrefl, Bool.false_eq_true, eqA, eqD, go_sem]
            exact ⟨hr6, ev6⟩
        · rintro ex fr H6 ⟨rfl, g0, g1, g5, g6, g10, hr6, ev6⟩
          obtain ⟨F6, hb6, cx6, ci6⟩ := hr6.hb
          have l11 := hb6.lds.2
          simp -implicitDefEqProofs only [g0, g1, g5, g6, g10, l11, eqA, eqD, go_sem]
          refine CW.mono (c_Add hb6 _) ?_
          rintro v H7 ⟨hb7, ch7⟩
          have hr7 : HR A n H7 (scan1 h1 s) := by rw [e1s]; exact ⟨hr6.ok, F6, hb7, cx6, ci6⟩
          have hs' : (s : Int) = -1 ∨ (s : Int) = 0 ∨ (s : Int) = 1 ∨ (s : Int) = 2 ∨ (s : Int) = 3 ∨ (s : Int) = 4 := by omega
          simp -implicitDefEqProofs only [g0, g1, g5, g6, g10, eqA, eqD, go_sem]
          refine CW.mono (c_fitWords hs') ?_
          rintro v H' ⟨rfl, rfl⟩
          rw [fitP_wds hs]
          have hwd : IntKind.i64.wrap (d + ((wds s : Nat) : Int)) = d + ((wds s : Nat) : Int) := wrap64 (by omega) (by omega)
          simp -implicitDefEqProofs only [g0, g1, g5, g6, g10, hwd, eqA, eqD, go_sem]
          obtain ⟨F7, hb7', -⟩ := hr7.hb
          refine CW.mono (c_greyB hr7.ok hb7') ?_
          rintro v H' ⟨rfl, rfl⟩
          simp -implicitDefEqProofs only [g0, g1, g5, g6, g10, eqA, eqD, go_sem]
          refine ⟨262144 - (j + 1), by omega, j + 1, d + wds s, scan1 h1 s, rfl, by omega, by omega, by omega, ?_, rfl, rfl, hr7, (ev5.then ev6 fun _ _ h => h).then (Evo.of_ch (D := A.d) ch7 (by show A.T A.me ≠ 0; rw [hb6.tm]; omega)) fun _ _ h => h⟩
          rw [show 262145 - (j + 1) = 262144 - j by omega]
          exact hsc
      · rw [if_neg hdl] at hsc
        simp -implicitDefEqProofs only [g0, g1, g5, g6, s0, s5, hlim, hdl, Bool.false_eq_true, eqA, eqD, go_sem]
        rw [← hsc]
        exact ⟨rfl, hr1, ev1⟩
end
set_option maxHeartbeats 4000000
section
variable {A : PA} {n : Nat → Nat} {H : AHeap} {h : HM} {F : Nat → Nat → AV}
def flG (h : HM) (k j : Nat) : TG := fun i => match h.g i with
  | none => none
  | some p => if (p.1 < k ∧ p.2 ∈ h.M p.1.toNat 3) ∨ (p.1 = k ∧ p.2 ∈ (h.M k 3).take j) then none else some p
theorem flG_some {k j : Nat} {i : Int} {p : Pl} : flG h k j i = some p ↔ h.g i = some p ∧ ¬ ((p.1 < k ∧ p.2 ∈ h.M p.1.toNat 3) ∨ (p.1 = k ∧ p.2 ∈ (h.M k 3).take j)) := by
  unfold flG
  cases hg : h.g i with
  | none => simp
  | some q =>
    dsimp only
    split
    · rename_i hq
      constructor
      · intro e; cases e
      · rintro ⟨e, hn⟩; cases e; exact absurd hq hn
    · rename_i hq
      constructor
      · intro e; cases e; exact ⟨rfl, hq⟩
      · rintro ⟨e, -⟩; exact e
theorem TG.ext' {g g' : TG} (e : ∀ i p, g i = some p ↔ g' i = some p) : g = g' := by
  funext i
  apply Option.ext
  intro p
  exact e i p
theorem flG_0 (k : Nat) : flG h k 0 = (flipK h k).g := TG.ext' fun i p => by
  rw [flG_some, flipK_g]; simp
theorem flG_end (k : Nat) : flG h k (h.M k 3).length = (flipK h (k + 1)).g := TG.ext' fun i p => by
  rw [flG_some, flipK_g, List.take_length]
  constructor
  · rintro ⟨e, hn⟩
    refine ⟨e, fun hh => hn ?_⟩
    by_cases e1 : p.1 = (k : Int)
    · right
      refine ⟨e1, ?_⟩
      have := hh.2
      rwa [e1, Int.toNat_natCast] at this
    · left; exact ⟨by have := hh.1; omega, hh.2⟩
  · rintro ⟨e, hn⟩
    refine ⟨e, fun hh => hn ?_⟩
    rcases hh with ⟨h1, h2⟩ | ⟨h1, h2⟩
    · exact ⟨by omega, h2⟩
    · exact ⟨by omega, by rw [h1, Int.toNat_natCast]; exact h2⟩
theorem flG_step (ok : HOk n h) {k j : Nat} (hk : k < 5) {c i : Int} (hc : (h.M k 3)[j]? = some c) (hi : h.g i = some ((k : Int), c)) : flG h k j i = some ((k : Int), c) ∧ fset (flG h k j) i none = flG h k (j + 1) := by
  have hnd := (ok.mill k hk).nd 3 (by omega)
  have hcj : c ∉ (h.M k 3).take j := by
    intro hm
    obtain ⟨t, ht, e⟩ := List.getElem_of_mem hm
    rw [List.length_take] at ht
    rw [List.getElem_take] at e
    obtain ⟨h1, h2⟩ := List.getElem?_eq_some_iff.1 hc
    have e2 : (h.M k 3)[t]? = (h.M k 3)[j]? := by rw [hc, List.getElem?_eq_getElem (by omega), e]
    have := (List.getElem?_inj (by omega) hnd).1 e2
    omega
  have h1 : flG h k j i = some ((k : Int), c) := flG_some.2 ⟨hi, by
    rintro (⟨a, -⟩ | ⟨-, b⟩)
    · simp at a
    · exact hcj b⟩
  refine ⟨h1, TG.ext' fun i' p => ?_⟩
  rw [flG_some]
  have htk : (h.M k 3).take (j + 1) = (h.M k 3).take j ++ [c] := by rw [List.take_add_one, hc]; rfl
  rw [htk]
  by_cases e : i' = i
  · subst e
    rw [fset_same]
    constructor
    · intro e; cases e
    · rintro ⟨e, hn⟩
      rw [hi] at e
      cases e
      exact absurd (.inr ⟨rfl, by simp⟩) hn
  · rw [fset_ne e, flG_some]
    constructor
    · rintro ⟨e1, hn⟩
      refine ⟨e1, fun hh => hn ?_⟩
      rcases hh with hh | ⟨h2, h3⟩
      · exact .inl hh
      · rcases List.mem_append.1 h3 with h3 | h3
        · exact .inr ⟨h2, h3⟩
        · exfalso
          have : p.2 = c := by simpa using h3
          refine e (ok.inj _ _ p e1 ?_)
          rw [hi, ← h2, ← this]
    · rintro ⟨e1, hn⟩
      refine ⟨e1, fun hh => hn ?_⟩
      rcases hh with hh | ⟨h2, h3⟩
      · exact .inl hh
      · exact .inr ⟨h2, List.mem_append_left _ h3⟩
theorem flipK_0 (ok : HOk n h) : (flipK h 0).g = h.g := TG.ext' fun i p => by
  rw [flipK_g]
  constructor
  · exact fun e => e.1
  · intro e
    refine ⟨e, fun hh => ?_⟩
    have := (ok.at_ i p e).1
    have := hh.1
    omega
theorem flipK_M (k : Nat) : upd (flipK h k).M k (flM (h.M k)) = (flipK h (k + 1)).M := by
  funext s
  show upd (fun s => if s < k then flM (h.M s) else h.M s) k _ s = if s < k + 1 then flM (h.M s) else h.M s
  by_cases e : s = k
  · subst e; rw [upd_same, if_pos (by omega)]
  · rw [upd_ne e]
    by_cases e' : s < k
    · rw [if_pos e', if_pos (by omega)]
    · rw [if_neg e', if_neg (by omega)]
theorem HB.cgM {g : TG} {M M' : Nat → Ml} (hB : HB A n H g M F) (e : ∀ s, s < 5 → n s ≠ 0 → M s = M' s) : HB A n H g M' F :=
  ⟨hB.blk, hB.wrd, fun s hs hn => e s hs hn ▸ hB.mil s hs hn, hB.tab, hB.met, hB.tb_, hB.tt, hB.tm, hB.tw, hB.tl, hB.new⟩
theorem cntK_le (ok : HOk n h) : ∀ k, k ≤ 5 → cntK h k ≤ 512 * k
  | 0, _ => by simp [cntK]
  | k + 1, hk => by
    have h1 := cntK_le ok k (by omega)
    have h2 : (h.M k 3).length ≤ n k := cells_le ((ok.mill k (by omega)).nd 3 (by omega)) fun x hx => (ok.mill k (by omega)).inn 3 x (by omega) hx
    have h3 := ok.max k (by omega)
    simp only [cntK]
    omega
theorem c_Flip (hr : HR A n H h) : CW MN 23 [.ptr (some (A.b, 0))] H fun v H' => v = .int .i64 (flipM h).1 ∧ HR A n H' (flipM h).2 ∧ Evo A.d H H' := by
  refine CW_of (fn := af23) rfl ?_
  dsimp only [af23, qm, q, qG, qn, qi, qb, qB, qk, qc, qo, qg, qv, qr]
  have ok' := hr.ok.flip
  unfold flipM at ok' ⊢
  simp -implicitDefEqProofs only [eqA, eqD, go_sem]
  refine CW.mono (c_Done hr) ?_
  rintro v H' ⟨rfl, rfl⟩
  cases hg : greyM h with
  | some s =>
    simp -implicitDefEqProofs only [Option.isNone_some, eqA, eqD, go_sem]
    exact ⟨hr, Evo.refl _ _⟩
  | none =>
    rw [hg] at ok'
    dsimp only at ok'
    obtain ⟨F, hb, cx, ci⟩ := hr.hb
    have hg2 := greyM_none hg
    obtain ⟨L, hL, hd⟩ := hb.ld5
    simp -implicitDefEqProofs only [Option.isNone_none, hL, Bool.false_eq_true, eqA, eqD, go_sem]
    refine WP_mono (Q := fun ex fr H1 => ex = .exit 0 ∧ fr.get 3 = some (.int .i64 (cntK h 5 : Nat)) ∧ HB A n H1 (flipK h 5).g (flipK h 5).M F ∧ Evo A.d H' H1) ?_ (WP_loop (fun m fr H1 => ∃ k : Nat, m = 5 - k ∧ k ≤ 5 ∧ fr.get 0 = some (.ptr (some (A.b, 0))) ∧ fr.get 3 = some (.int .i64 (cntK h k : Nat)) ∧ fr.get 16 = some (.agg L) ∧ fr.get 17 = some (.int .i64 k) ∧ HB A n H1 (flipK h k).g (flipK h k).M F ∧ Evo A.d H' H1) 5 ?_ ?_)
    · rintro ex fr H1 ⟨rfl, g3, hb1, ev1⟩
      simp -implicitDefEqProofs only [g3, eqA, eqD, go_sem]
      refine ⟨⟨ok', F, hb1, fun i p hp => ?_, fun i p hp hE => ?_⟩, ev1⟩
      · exact cx i p (flipK_g.1 hp).1
      · exact ci i p (flipK_g.1 hp).1 hE
    · refine ⟨0, rfl, by omega, ?_⟩
      simp -implicitDefEqProofs only [eqA, eqD, go_sem]
      refine ⟨rfl, ?_, Evo.refl _ _⟩
      rw [flipK_0 hr.ok]
      exact hb.cgM fun s _ _ => by show h.M s = if s < 0 then flM (h.M s) else h.M s; rw [if_neg (by omega)]
    · rintro m fr H1 ⟨k, hm, hk, g0, g3, g16, g17, hb1, ev1⟩
      have k0 : (0 : Int) ≤ k := by omega
      by_cases hlt : k < 5
      · have hlt' : (k : Int) < 5 := by omega
        have hw := wrapS hlt (by omega)
        have hdk := hd k hlt
        rw [hb_mill hlt] at hdk
        by_cases hn : n k = 0
        · rw [if_pos hn] at hdk
          have e3 := hr.ok.emp hlt hn (k := 3) (by omega)
          simp -implicitDefEqProofs only [g0, g3, g16, g17, hlt', k0, hdk, hw, BEq.rfl, eqA, eqD, go_sem]
          refine ⟨5 - (k + 1), by omega, k + 1, rfl, by omega, ?_, rfl, ?_, ev1⟩
          · simp only [cntK, e3]; rfl
          · have eg : (flipK h (k + 1)).g = (flipK h k).g := by rw [← flG_end, e3, List.length_nil, flG_0]
            rw [eg]
            refine hb1.cgM fun s hs hn' => ?_
            show (if s < k then flM (h.M s) else h.M s) = if s < k + 1 then flM (h.M s) else h.M s
            have : s ≠ k := fun e => hn' (e ▸ hn)
            by_cases e' : s < k
            · rw [if_pos e', if_pos (by omega)]
            · rw [if_neg e', if_neg (by omega)]
        · rw [if_neg hn] at hdk
          have mk : MillR H1 (A.ml k) (n k) (h.M k) := by
            have := hb1.mil k hlt hn
            have e : (flipK h k).M k = h.M k := by show (if k < k then flM (h.M k) else h.M k) = _; rw [if_neg (by omega)]
            rwa [e] at this
          simp -implicitDefEqProofs only [g0, g3, g16, g17, hlt', k0, hdk, Bool.false_eq_true, eqA, eqD, go_sem]
          refine CW.mono (c_mFlip mk (hg2 k hlt)) ?_
          rintro v H2 ⟨row, m2, ev2⟩
          have hb2 : HB A n H2 (flG h k 0) (flipK h (k + 1)).M F := by
            have := hb1.mill hlt hn m2 ev2
            rw [flipK_M] at this
            rw [flG_0]; exact this
          have evd2 : Evo A.d H' H2 := ev1.then ev2 fun x _ hx => by
            show A.T x ≠ 0
            rw [hb1.tl k hlt hn x hx]; omega
          obtain ⟨a, s0, cl, rfl⟩ := row.shape
          have nTrow : ∀ x, H1.next ≤ x → A.T x = 0 := fun x hx => hb1.new x hx
          have l3 : (h.M k 3).length ≤ n k := cells_le ((hr.ok.mill k hlt).nd 3 (by omega)) fun x hx => (hr.ok.mill k hlt).inn 3 x (by omega) hx
          have lmax := hr.ok.max k hlt
          have lc := cntK_le hr.ok k (by omega)
          simp -implicitDefEqProofs only [g0, g3, g16, g17, eqA, eqD, go_sem]
          refine WP_mono (Q := fun ex fr H3 => ex = .exit 2 ∧ fr.get 0 = some (.ptr (some (A.b, 0))) ∧ fr.get 3 = some (.int .i64 (cntK h (k + 1) : Nat)) ∧ fr.get 16 = some (.agg L) ∧ fr.get 17 = some (.int .i64 k) ∧ HB A n H3 (flipK h (k + 1)).g (flipK h (k + 1)).M F ∧ Evo A.d H' H3) ?_ (WP_loop (fun m fr H3 => ∃ j : Nat, m = (h.M k 3).length - j ∧ j ≤ (h.M k 3).length ∧ fr.get 0 = some (.ptr (some (A.b, 0))) ∧ fr.get 3 = some (.int .i64 (cntK h k + j : Nat)) ∧ fr.get 4 = some (.int .i64 k) ∧ fr.get 16 = some (.agg L) ∧ fr.get 17 = some (.int .i64 k) ∧ fr.get 24 = some (.slice a s0 (h.M k 3).length cl) ∧ fr.get 25 = some (.int .i64 (h.M k 3).length) ∧ fr.get 26 = some (.int .i64 j) ∧ HB A n H3 (flG h k j) (flipK h (k + 1)).M F ∧ Evo A.d H' H3 ∧ Evo A.d H2 H3) (h.M k 3).length ?_ ?_)
          rotate_left
          · refine ⟨0, rfl, by omega, ?_⟩
            simp -implicitDefEqProofs only [g0, g3, g16, g17, eqA, eqD, go_sem]
            exact ⟨hb2, evd2, Evo.refl _ _⟩
          · rintro m fr H3 ⟨j, hm', hj, g0, g3, g4, g16, g17, g24, g25, g26, hb3, ev3, ev23⟩
            have j0 : (0 : Int) ≤ j := by omega
            by_cases hjl : j < (h.M k 3).length
            · have hjl' : (j : Int) < ((h.M k 3).length : Int) := by omega
              have hw2 := wrapS hjl (by omega)
              have hw3 : IntKind.i64.wrap (((cntK h k + j : Nat) : Int) + 1) = ((cntK h k + (j + 1) : Nat) : Int) := by rw [wrap64 (by omega) (by omega)]; omega
              have row3 := row.keep (H' := H3) ev23.1 fun x hx hl => ev23.2 x hl fun hd => hd (nTrow x hx)
              obtain ⟨x, rfl, -, ld⟩ := row3.at hjl
              have hc : (h.M k 3)[j]? = some (h.M k 3)[j] := List.getElem?_eq_getElem hjl
              generalize (h.M k 3)[j] = c at *
              obtain ⟨i, hi⟩ := hr.ok.of k 3 c hlt (by omega) (by omega) (List.mem_of_getElem? hc)
              obtain ⟨f1, f2⟩ := flG_step hr.ok hlt hc hi
              have l10 := hb3.lds.1
              simp -implicitDefEqProofs only [g0, g3, g4, g16, g17, g24, g25, g26, hjl', j0, ld, l10, Nat.zero_add, eqA, eqD, go_sem]
              refine CW.mono (c_Of hb3.tab k c) ?_
              rintro v H4 ⟨rfl, s4⟩
              rw [ofG_at hb3.tab.inj f1]
              have hb4 := hb3.sm s4
              have l104 := hb4.lds.1
              simp -implicitDefEqProofs only [g0, g3, g4, g16, g17, g24, g25, g26, l104, Option.getD_some, Option.isSome_some, eqA, eqD, go_sem]
              refine CW.mono (c_Give hb4.tab i) ?_
              rintro v H5 ⟨rfl, t5, ev5⟩
              rw [f2] at t5
              have hb5 := hb4.table t5 ev5
              have ev45 : Evo A.d H3 H5 := (Evo.of_sm (D := A.d) s4).then ev5 fun x _ hx => by
                show A.T x ≠ 0
                rcases hx with rfl | rfl
                · rw [hb4.tt.2.1]; omega
                · rw [hb4.tt.2.2]; omega
              simp -implicitDefEqProofs only [g0, g3, g4, g16, g17, g24, g25, g26, hw2, hw3, eqA, eqD, go_sem]
              exact ⟨(h.M k 3).length - (j + 1), by omega, j + 1, rfl, by omega, rfl, rfl, hb5, ev3.then ev45 fun _ _ h => h, ev23.then ev45 fun _ _ h => h⟩
            · obtain rfl : j = (h.M k 3).length := by omega
              rw [flG_end] at hb3
              simp -implicitDefEqProofs only [g0, g3, g4, g16, g17, g24, g25, g26, Int.lt_irrefl, Bool.false_eq_true, eqA, eqD, go_sem]
              exact ⟨rfl, hb3, ev3⟩
          · rintro ex fr H3 ⟨rfl, g0, g3, g16, g17, hb3, ev3⟩
            simp -implicitDefEqProofs only [g0, g3, g16, g17, hw, eqA, eqD, go_sem]
            exact ⟨5 - (k + 1), by omega, k + 1, rfl, by omega, rfl, rfl, hb3, ev3⟩
      · obtain rfl : k = 5 := by omega
        have e5 : ¬ ((5 : Nat) : Int) < 5 := by omega
        simp -implicitDefEqProofs only [g0, g3, g16, g17, e5, Int.lt_irrefl, Bool.false_eq_true, eqA, eqD, go_sem]
        exact ⟨hb1, ev1⟩
end
set_option maxHeartbeats 4000000
section
variable {A : PA} {n : Nat → Nat} {H : AHeap} {h : HM} {F : Nat → Nat → AV}
theorem c_PackAny (c l s : Int) : CW MN 44 [.agg [.int .i64 c, .int .i64 l, .int .i64 s]] H fun v H' => (∃ (w : Int) (b : Bool), v = .tuple [.int .u32 w, .bool b] ∧ (0 ≤ c → c ≤ 4095 → 0 ≤ l → l ≤ 255 → 0 ≤ s → s ≤ 15 → b = true ∧ w = (hwN c.toNat l.toNat s.toNat : Nat))) ∧ Sm H H' := by
  by_cases hr : (0 ≤ c ∧ c ≤ 4095) ∧ (0 ≤ l ∧ l ≤ 255) ∧ (0 ≤ s ∧ s ≤ 15)
  · obtain ⟨⟨c0, c1⟩, ⟨l0, l1⟩, ⟨s0, s1⟩⟩ := hr
    obtain ⟨cN, rfl⟩ := Int.eq_ofNat_of_zero_le c0
    obtain ⟨lN, rfl⟩ := Int.eq_ofNat_of_zero_le l0
    obtain ⟨sN, rfl⟩ := Int.eq_ofNat_of_zero_le s0
    refine CW.mono (c_Pack (c := cN) (l := lN) (s := sN) (by omega) (by omega) (by omega)) ?_
    rintro v H' ⟨rfl, s⟩
    exact ⟨⟨_, _, rfl, fun _ _ _ _ _ _ => ⟨rfl, rfl⟩⟩, s⟩
  · refine CW_of (fn := af44) rfl ?_
    dsimp only [af44, qm, q, qG, qn, qi, qb, qB, qk, qc, qo, qg, qv, qr]
    have r1 := Rd.newRow H [.int .i64 c, .int .i64 l, .int .i64 s]
    have s1 := Chg.newRow H [.int .i64 c, .int .i64 l, .int .i64 s]
    generalize eH1 : H.newRow [.int .i64 c, .int .i64 l, .int .i64 s] = H1 at *
    have m0 := r1.one (j := 0) (v := .int .i64 c) rfl
    have m1 := r1.one (j := 1) (v := .int .i64 l) rfl
    have m2 := r1.one (j := 2) (v := .int .i64 s) rfl
    simp -implicitDefEqProofs only [eH1, m0, eqA, eqD, go_sem]
    refine CW.mono (c_hwithin _ _) ?_
    rintro v H' ⟨rfl, rfl⟩
    by_cases d1 : 0 ≤ c ∧ c ≤ 4095
    · rw [decide_eq_true d1]
      simp -implicitDefEqProofs only [eH1, m1, eqA, eqD, go_sem]
      refine CW.mono (c_hwithin _ _) ?_
      rintro v H' ⟨rfl, rfl⟩
      by_cases d2 : 0 ≤ l ∧ l ≤ 255
      · rw [decide_eq_true d2]
        simp -implicitDefEqProofs only [eH1, m2, eqA, eqD, go_sem]
        refine CW.mono (c_hwithin _ _) ?_
        rintro v H' ⟨rfl, rfl⟩
        have d3 : ¬ (0 ≤ s ∧ s ≤ 15) := fun d3 => hr ⟨d1, d2, d3⟩
        rw [decide_eq_false d3]
        simp -implicitDefEqProofs only [eH1, eqA, eqD, go_sem]
        exact ⟨⟨_, _, rfl, fun _ _ _ _ a b => absurd ⟨a, b⟩ d3⟩, s1⟩
      · rw [decide_eq_false d2]
        simp -implicitDefEqProofs only [eH1, eqA, eqD, go_sem]
        exact ⟨⟨_, _, rfl, fun _ _ a b _ _ => absurd ⟨a, b⟩ d2⟩, s1⟩
    · rw [decide_eq_false d1]
      simp -implicitDefEqProofs only [eH1, eqA, eqD, go_sem]
      exact ⟨⟨_, _, rfl, fun a b _ _ _ _ => absurd ⟨a, b⟩ d1⟩, s1⟩
theorem c_Alloc (hr : HR A n H h) {c f : Int} (hf : f ≤ 9223372036854775807) : CW MN 11 [.ptr (some (A.b, 0)), .int .i64 c, .int .i64 f] H fun v H' => v = .int .i64 (allocM h c f).1 ∧ HR A n H' (allocM h c f).2 ∧ Evo A.d H H' := by
  refine CW_of (fn := af11) rfl ?_
  dsimp only [af11, qm, q, qG, qn, qi, qb, qB, qk, qc, qo, qg, qv, qr]
  simp -implicitDefEqProofs only [eqA, eqD, go_sem]
  refine CW.mono (c_fitOf hf) ?_
  rintro v H' ⟨rfl, rfl⟩
  rw [ofP_szP]
  obtain ⟨m, hm, hm2⟩ : ∃ m : Int, mnL true (.int .i64 0) [.int .i64 (szP f)] = some (.int .i64 m) ∧ (0 ≤ szP f → m = szP f) := by
    simp only [mnL, mnA, cond_true]
    by_cases g : szP f > (0 : Int)
    · exact ⟨szP f, by rw [if_pos g], fun _ => rfl⟩
    · exact ⟨0, by rw [if_neg g], fun _ => by omega⟩
  simp -implicitDefEqProofs only [hm, eqA, eqD, go_sem]
  refine CW.mono (c_PackAny c f m) ?_
  rintro v H1 ⟨⟨w, b, rfl, hwb⟩, s1⟩
  obtain ⟨hr1, ev1⟩ := hr.evoS s1
  have okA := hr.ok.alloc c f
  by_cases z0 : szP f < 0
  · have e : allocM h c f = (-1, h) := by unfold allocM; rw [if_pos (.inl z0)]
    rw [e]
    simp -implicitDefEqProofs only [z0, eqA, eqD, go_sem]
    exact ⟨hr1, ev1⟩
  by_cases z1 : c < 0
  · have e : allocM h c f = (-1, h) := by unfold allocM; rw [if_pos (.inr (.inl z1))]
    rw [e]
    simp -implicitDefEqProofs only [z0, z1, Bool.false_eq_true, eqA, eqD, go_sem]
    exact ⟨hr1, ev1⟩
  by_cases z2 : 4095 < c
  · have e : allocM h c f = (-1, h) := by unfold allocM; rw [if_pos (.inr (.inr z2))]
    rw [e]
    simp -implicitDefEqProofs only [z0, z1, z2, Bool.false_eq_true, eqA, eqD, go_sem]
    exact ⟨hr1, ev1⟩
  have hz : 0 ≤ szP f := by omega
  obtain ⟨f0, f1, hs5, hfw⟩ := szP_nn hz
  have hmz := hm2 hz
  obtain ⟨s, hS⟩ := Int.eq_ofNat_of_zero_le hz
  rw [hS] at hmz hs5 hfw
  rw [Int.toNat_natCast] at hfw
  have hs : s < 5 := by omega
  obtain ⟨rfl, rfl⟩ := hwb (by omega) (by omega) f0 (by omega) (by omega) (by omega)
  rw [hmz, Int.toNat_natCast]
  obtain ⟨F1, hb1, cx1, ci1⟩ := hr1.hb
  have s0 : (0 : Int) ≤ s := by omega
  have s5 : (s : Int) < 5 := by omega
  have hsz : ¬ (s : Int) < 0 := by omega
  rw [hS] at hm
  by_cases hn : n s = 0
  · have e : allocM h c f = (-1, h) := by
      unfold allocM
      rw [if_neg (by omega), hS, Int.toNat_natCast, hr.ok.emp hs hn (by omega)]
    rw [e]
    have lm := hb1.ldM0 hs hn
    simp -implicitDefEqProofs only [hS, hsz, z1, z2, s0, s5, lm, BEq.rfl, Bool.false_eq_true, eqA, eqD, go_sem]
    exact ⟨hr1, ev1⟩
  have lm := hb1.ldM hs hn
  simp -implicitDefEqProofs only [hS, hsz, z1, z2, s0, s5, lm, Bool.false_eq_true, eqA, eqD, go_sem]
  refine CW.mono (c_mAlloc (hb1.mil s hs hn)) ?_
  rintro v H2 ⟨rfl, m2, ev2, nn2⟩
  have evd2 : Evo A.d H' H2 := ev1.then ev2 fun x _ hx => by
    show A.T x ≠ 0
    rw [hb1.tl s hs hn x hx]; omega
  cases hM : h.M s 0 with
  | nil =>
    have e : allocM h c f = (-1, h) := by
      unfold allocM
      rw [if_neg (by omega), hS, Int.toNat_natCast, hM]
    have ea : alM (h.M s) = (-1, h.M s) := by unfold alM; rw [hM]
    rw [e]
    rw [ea] at m2 ⊢
    have hb2 := hb1.mill hs hn m2 ev2
    rw [upd_self] at hb2
    simp -implicitDefEqProofs only [eqA, eqD, go_sem]
    exact ⟨⟨hr.ok, F1, hb2, cx1, ci1⟩, evd2⟩
  | cons i l =>
    have ea : alM (h.M s) = (i, mv (h.M s) i 1) := by unfold alM; rw [hM]
    rw [ea] at m2 ⊢
    have hb2 := hb1.mill hs hn m2 ev2
    have him : i ∈ h.M s 0 := by rw [hM]; simp
    have hib := (hr.ok.mill s hs).inn 0 i (by omega) him
    obtain ⟨ci, rfl⟩ := Int.eq_ofNat_of_zero_le hib.1
    have hcn : ci < n s := by omega
    obtain ⟨id, hid, e⟩ := hr.ok.alloc_at (c := c) (f := f) hz (by omega) (by omega) (i := (ci : Int)) (l := l) (by rw [hS, Int.toNat_natCast]; exact hM)
    have hno : ∀ j, h.g j ≠ some ((s : Int), (ci : Int)) := fun j hj => by
      obtain ⟨-, -, k, h1, h2, h3⟩ := hr.ok.at_ _ _ hj
      have := (hr.ok.mill s hs).dis k 0 ci h2 (by omega) (by simpa using h3) him
      omega
    rw [hS, Int.toNat_natCast] at e
    have hmax := hr.ok.max s hs
    obtain ⟨idN, rfl⟩ := Int.eq_ofNat_of_zero_le (by have := hid.1; omega : 0 ≤ id)
    have id4 := hid.1
    have id1 := hid.2.1
    have nci : ¬ (ci : Int) < 0 := by omega
    obtain ⟨H3, q1, q2, q3, q4⟩ := store_new H2 [.int .i64 0, .int .i64 0] [.int .i64 s, .int .i64 ci] rfl
    have l4 := q4.load (n := 2) rfl
    have hb3 := hb2.sm q3
    have l10 := hb3.lds.1
    simp -implicitDefEqProofs only [nci, q1, l4, l10, Bool.false_eq_true, eqA, eqD, go_sem]
    refine CW.mono (c_Take hb3.tab s ci) ?_
    rintro v H4 ⟨rfl, t4, ev4⟩
    rw [tk_at hno hid] at t4 ⊢
    have hb4 := hb3.table t4 ev4
    have nT : A.T H2.next = 0 := hb2.new _ (Nat.le_refl _)
    have r4 : Rd H4 H2.next 0 [.int .i64 s, .int .i64 ci] := q4.keep ev4.1 (ev4.2 _ q4.1 fun hd => by
      rcases hd with e | e
      · rw [e, hb3.tt.2.1] at nT; omega
      · rw [e, hb3.tt.2.2] at nT; omega)
    have l5 := r4.load (n := 2) rfl
    have evd4 : Evo A.d H' H4 := (evd2.then (Evo.of_sm (D := A.d) q3) fun _ _ h => h).then ev4 fun x _ hx => by
      show A.T x ≠ 0
      rcases hx with rfl | rfl
      · rw [hb3.tt.2.1]; omega
      · rw [hb3.tt.2.2]; omega
    simp -implicitDefEqProofs only [nci, q1, l4, l10, l5, Bool.false_eq_true, eqA, eqD, go_sem]
    refine CW.mono (c_cell hb4 hs hcn hmax) ?_
    rintro v H5 ⟨⟨cl, rfl⟩, s5'⟩
    have hb5 := hb4.sm s5'
    simp -implicitDefEqProofs only [eqA, eqD, go_sem]
    refine CW.mono (c_Oop (by omega) (by omega)) ?_
    rintro v Hz ⟨rfl, rfl⟩
    have hw4 := (wds_bd hs).1
    have hw64 := (wds_bd hs).2
    have w0 : (0 : Int) < ((wds s : Nat) : Int) := by omega
    have w1 : (1 : Int) < ((wds s : Nat) : Int) := by omega
    have c1 : (1 : Int).toNat = 1 := rfl
    have c0 : (0 : Int).toNat = 0 := rfl
    let hX : HM := ⟨fset h.g idN (some ((s : Int), (ci : Int))), upd h.M s (mv (h.M s) ci 1), h.X⟩
    have hb5' : HB A n Hz hX.g hX.M F1 := hb5
    obtain ⟨H6, e6, hb6, ch6⟩ := hb5'.word hs hcn (j := 0) (by omega) (.int .u32 (hwN c.toNat f.toNat s : Nat))
    obtain ⟨H7, e7, hb7, ch7⟩ := hb6.word hs hcn (j := 1) (by omega) (.int .u32 ((2 * idN : Nat) : Int))
    rw [Nat.add_zero] at e6
    have evd7 : Evo A.d H' H7 := ((evd4.then (Evo.of_sm (D := A.d) s5') fun _ _ h => h).then (Evo.of_ch (D := A.d) ch6 (d_w hb5' hs)) fun _ _ h => h).then (Evo.of_ch (D := A.d) ch7 (d_w hb5' hs)) fun _ _ h => h
    obtain ⟨fN, rfl⟩ := Int.eq_ofNat_of_zero_le f0
    rw [Int.toNat_natCast] at e6 hb6 hb7
    simp only [Nat.add_zero] at hb6 hb7
    simp -implicitDefEqProofs only [w0, w1, c0, c1, e6, e7, Int.le_refl, eqA, eqD, go_sem]
    let PP : (Nat → Nat → AV) → Nat → Prop := fun F' k => (∀ s' c' j', j' < wds s' → (s ≠ s' ∨ ci ≠ c') → F' s' (c' * wds s' + j') = F1 s' (c' * wds s' + j')) ∧ F' s (ci * wds s) = .int .u32 (hwN c.toNat fN s : Nat) ∧ F' s (ci * wds s + 1) = .int .u32 ((2 * idN : Nat) : Int) ∧ ∀ j, j < k → F' s (ci * wds s + 2 + j) = .int .u32 2
    refine WP_mono (Q := fun ex fr H8 => ex = .exit 0 ∧ fr.get 0 = some (.ptr (some (A.b, 0))) ∧ fr.get 2 = some (.int .i64 fN) ∧ fr.get 12 = some (.int .i64 idN) ∧ (∃ F', HB A n H8 hX.g hX.M F' ∧ PP F' fN) ∧ Evo A.d H' H8) ?_ (WP_loop (fun m fr H8 => ∃ (k : Nat) (F' : Nat → Nat → AV), m = fN - k ∧ k ≤ fN ∧ fr.get 0 = some (.ptr (some (A.b, 0))) ∧ fr.get 2 = some (.int .i64 fN) ∧ fr.get 12 = some (.int .i64 idN) ∧ fr.get 13 = some (.slice (some (A.w s, ci * wds s)) 1 (wds s) cl) ∧ fr.get 77 = some (.int .i64 fN) ∧ fr.get 78 = some (.int .i64 k) ∧ HB A n H8 hX.g hX.M F' ∧ PP F' k ∧ Evo A.d H' H8) fN ?_ ?_)
    rotate_left
    · refine ⟨0, upd (upd F1 s (upd (F1 s) (ci * wds s) (.int .u32 (hwN c.toNat fN s : Nat)))) s (upd ((upd F1 s (upd (F1 s) (ci * wds s) (.int .u32 (hwN c.toNat fN s : Nat)))) s) (ci * wds s + 1) (.int .u32 ((2 * idN : Nat) : Int))), rfl, by omega, ?_⟩
      simp -implicitDefEqProofs only [eqA, eqD, go_sem]
      refine ⟨hb7, ⟨fun s' c' j' hj' hne => ?_, ?_, ?_, fun j hj => by omega⟩, evd7⟩
      · have e0 := F_other (F := F1) (v := .int .u32 (hwN c.toNat fN s : Nat)) (j := 0) (by omega : 0 < wds s) hj' hne
        simp only [Nat.add_zero] at e0
        rw [F_other (by omega) hj' hne, e0]
      · rw [F_ne (by omega), F_same]
      · rw [F_same]
    · rintro m fr H8 ⟨k, F', hm', hk, g0, g2, g12, g13, g77, g78, hb8, ⟨p1, p2, p3, p4⟩, ev8⟩
      have k0 : (0 : Int) ≤ k := by omega
      by_cases hlt : k < fN
      · have hlt' : (k : Int) < (fN : Int) := by omega
        have hw := wrapS hlt (by omega)
        have hw2 : IntKind.i64.wrap (2 + (k : Int)) = ((2 + k : Nat) : Int) := by rw [wrap64 (by omega) (by omega)]; omega
        have k2 : ((2 + k : Nat) : Int) < ((wds s : Nat) : Int) := by omega
        have k20 : (0 : Int) ≤ ((2 + k : Nat) : Int) := by omega
        obtain ⟨H9, e9, hb9, ch9⟩ := hb8.word hs hcn (j := 2 + k) (by omega) (.int .u32 2)
        simp -implicitDefEqProofs only [g0, g2, g12, g13, g77, g78, hlt', hw2, k2, k20, e9, hw, eqA, eqD, go_sem]
        refine ⟨fN - (k + 1), by omega, k + 1, upd F' s (upd (F' s) (ci * wds s + (2 + k)) (.int .u32 2)), rfl, by omega, rfl, hb9, ⟨fun s' c' j' hj' hne => ?_, ?_, ?_, fun j hj => ?_⟩, ev8.then (Evo.of_ch (D := A.d) ch9 (d_w hb5' hs)) fun _ _ h => h⟩
        · rw [F_other (by omega) hj' hne]; exact p1 s' c' j' hj' hne
        · rw [F_ne (by omega)]; exact p2
        · rw [F_ne (by omega)]; exact p3
        · by_cases e : j = k
          · subst e
            rw [show ci * wds s + 2 + j = ci * wds s + (2 + j) by omega, F_same]
          · rw [F_ne (by omega)]; exact p4 j (by omega)
      · obtain rfl : k = fN := by omega
        simp -implicitDefEqProofs only [g0, g2, g12, g13, g77, g78, Int.lt_irrefl, Bool.false_eq_true, eqA, eqD, go_sem]
        exact ⟨⟨F', hb8, p1, p2, p3, p4⟩, ev8⟩
    · rintro ex fr H8 ⟨rfl, g0, g2, g12, ⟨F', hb8, p1, p2, p3, p4⟩, ev8⟩
      have l11 := hb8.lds.2
      simp -implicitDefEqProofs only [g0, g2, g12, l11, eqA, eqD, go_sem]
      refine CW.mono (c_Add hb8 _) ?_
      rintro v H9 ⟨hb9, ch9⟩
      simp -implicitDefEqProofs only [g0, g2, g12, eqA, eqD, go_sem]
      rw [e] at okA ⊢
      dsimp only at okA ⊢
      refine ⟨rfl, ⟨okA, F', hb9, fun i' p' hp' => ?_, fun i' p' hp' hE => ?_⟩, ev8.then (Evo.of_ch (D := A.d) ch9 (by show A.T A.me ≠ 0; rw [hb8.tm]; omega)) fun _ _ h => h⟩
      · by_cases ei : i' = (idN : Int)
        · subst ei
          have hp'' : fset h.g idN (some ((s : Int), (ci : Int))) idN = some p' := hp'
          rw [fset_same] at hp''
          obtain rfl := Option.some.inj hp''
          simp only [po, Int.toNat_natCast, fset_same, List.length_replicate]
          refine ⟨p2, fun k w hk => ?_⟩
          rw [List.getElem?_replicate] at hk
          split at hk
          · rename_i hkf
            rw [← Option.some.inj hk]
            exact p4 k hkf
          · cases hk
        · have hp'' : fset h.g idN (some ((s : Int), (ci : Int))) i' = some p' := hp'
          rw [fset_ne ei] at hp''
          obtain ⟨s', c', rfl, hs', -, -, -, hl', -⟩ := hr.ok.place hp''
          have hpn : (((s' : Int), (c' : Int)) : Pl) ≠ ((s : Int), (ci : Int)) := fun e => hno i' (e ▸ hp'')
          have hne := pl_ne (Ne.symm hpn)
          obtain ⟨x1, x2⟩ := cx1 i' _ hp''
          have hw4' := (wds_bd hs').1
          simp only [po, Int.toNat_natCast, fset_ne hpn] at x1 x2 ⊢
          refine ⟨?_, fun k w hk => ?_⟩
          · have := p1 s' c' 0 (by omega) hne
            simp only [Nat.add_zero] at this
            rw [this]; exact x1
          · have hlt := (List.getElem?_eq_some_iff.1 hk).1
            have := p1 s' c' (2 + k) (by omega) hne
            rw [Nat.add_assoc, this, ← Nat.add_assoc]; exact x2 k w hk
      · by_cases ei : i' = (idN : Int)
        · subst ei
          have hp'' : fset h.g idN (some ((s : Int), (ci : Int))) idN = some p' := hp'
          rw [fset_same] at hp''
          obtain rfl := Option.some.inj hp''
          simp only [po, Int.toNat_natCast]
          rw [p3]; congr 1
        · have hp'' : fset h.g idN (some ((s : Int), (ci : Int))) i' = some p' := hp'
          rw [fset_ne ei] at hp''
          obtain ⟨s', c', rfl, hs', -⟩ := hr.ok.place hp''
          have hpn : (((s' : Int), (c' : Int)) : Pl) ≠ ((s : Int), (ci : Int)) := fun e => hno i' (e ▸ hp'')
          have hne := pl_ne (Ne.symm hpn)
          have x1 := ci1 i' _ hp'' fun h => h
          have hw4' := (wds_bd hs').1
          simp only [po, Int.toNat_natCast] at x1 ⊢
          rw [p1 s' c' 1 (by omega) hne]; exact x1
end
set_option maxHeartbeats 4000000
def sumK (n : Nat → Nat) : Nat → Nat
  | 0 => 0
  | k + 1 => sumK n k + n k
structure Cfg (n : Nat → Nat) : Prop where
  max : ∀ s, s < 5 → n s ≤ 512
  lo : 1 ≤ n 0 + n 1 + n 2 + n 3 + n 4
  hi : n 0 + n 1 + n 2 + n 3 + n 4 ≤ 1020
abbrev cfgC (n : Nat → Nat) (p : Int) : List AV := [.int .i64 (n 0), .int .i64 (n 1), .int .i64 (n 2), .int .i64 (n 3), .int .i64 (n 4), .int .i64 p]
theorem cfg_at (n : Nat → Nat) {k : Nat} (hk : k < 5) : (([.int .i64 (n 0), .int .i64 (n 1), .int .i64 (n 2), .int .i64 (n 3), .int .i64 (n 4)] : List AV).drop k).take 1 = [.int .i64 (n k)] := by
  match k, hk with
  | 0, _ => rfl
  | 1, _ => rfl
  | 2, _ => rfl
  | 3, _ => rfl
  | 4, _ => rfl
section
variable {H : AHeap}
theorem c_Right {n : Nat → Nat} (hc : Cfg n) {p : Int} (p1 : 1 ≤ p) (p2 : p ≤ 16) : CW MN 37 [.agg (cfgC n p)] H fun v H' => v = .int .i64 0 ∧ Sm H H' := by
  refine CW_of (fn := af37) rfl ?_
  dsimp only [af37, qm, q, qG, qn, qi, qb, qB, qk, qc, qo, qg, qv, qr]
  have r1 := Rd.newRow H (cfgC n p)
  have s1 := Chg.newRow H (cfgC n p)
  unfold cfgC at r1 s1 ⊢
  generalize eH1 : H.newRow [.int .i64 (n 0), .int .i64 (n 1), .int .i64 (n 2), .int .i64 (n 3), .int .i64 (n 4), .int .i64 p] = H1 at *
  have l5 : loadA H1 H.next 0 5 = some [.int .i64 (n 0), .int .i64 (n 1), .int .i64 (n 2), .int .i64 (n 3), .int .i64 (n 4)] := (r1.pre 5).load rfl
  have lp := r1.one (j := 5) (v := .int .i64 p) rfl
  rw [Nat.zero_add] at lp
  have hL := fun k (hk : k < 5) => cfg_at n hk
  generalize ([.int .i64 (n 0), .int .i64 (n 1), .int .i64 (n 2), .int .i64 (n 3), .int .i64 (n 4)] : List AV) = L at l5 hL
  have hs : ∀ k, k ≤ 5 → sumK n k ≤ 1020 := fun k hk => by
    have := hc.hi
    match k, hk with
    | 0, _ => simp [sumK]
    | 1, _ => simp [sumK]; omega
    | 2, _ => simp [sumK]; omega
    | 3, _ => simp [sumK]; omega
    | 4, _ => simp [sumK]; omega
    | 5, _ => simp [sumK]; omega
  simp -implicitDefEqProofs only [eH1, l5, eqA, eqD, go_sem]
  refine WP_mono (Q := fun ex fr H' => ex = .exit 0 ∧ fr.get 1 = some (.ptr (some (H.next, 0))) ∧ fr.get 3 = some (.int .i64 (sumK n 5 : Nat)) ∧ H' = H1) ?_ (WP_loop (fun m fr H' => ∃ k : Nat, m = 5 - k ∧ k ≤ 5 ∧ fr.get 1 = some (.ptr (some (H.next, 0))) ∧ fr.get 3 = some (.int .i64 (sumK n k : Nat)) ∧ fr.get 7 = some (.agg L) ∧ fr.get 8 = some (.int .i64 k) ∧ H' = H1) 5 ?_ ?_)
  · rintro ex fr H' ⟨rfl, g1, g3, rfl⟩
    have h5 : sumK n 5 = n 0 + n 1 + n 2 + n 3 + n 4 := by simp [sumK]
    have q1 : ¬ ((sumK n 5 : Nat) : Int) < 1 := by have := hc.lo; omega
    have q2 : ¬ (1020 : Int) < ((sumK n 5 : Nat) : Int) := by have := hc.hi; omega
    have q3 : ¬ p < 1 := by omega
    have q4 : ¬ (16 : Int) < p := by omega
    simp -implicitDefEqProofs only [g1, g3, q1, q2, q3, q4, lp, Bool.false_eq_true, eqA, eqD, go_sem]
    exact s1
  · refine ⟨0, rfl, by omega, ?_⟩
    simp -implicitDefEqProofs only [eqA, eqD, go_sem]
    rfl
  · rintro m fr H' ⟨k, hm, hk, g1, g3, g7, g8, rfl⟩
    have k0 : (0 : Int) ≤ k := by omega
    by_cases hlt : k < 5
    · have hlt' : (k : Int) < 5 := by omega
      have hw := wrapS hlt (by omega)
      have hdk := hL k hlt
      have q1 : ¬ ((n k : Nat) : Int) < 0 := by omega
      have q2 : ¬ (512 : Int) < ((n k : Nat) : Int) := by have := hc.max k hlt; omega
      have hh := hs (k + 1) (by omega)
      simp only [sumK] at hh
      have hw2 : IntKind.i64.wrap (((sumK n k : Nat) : Int) + ((n k : Nat) : Int)) = ((sumK n k + n k : Nat) : Int) := by rw [wrap64 (by omega) (by omega)]; omega
      simp -implicitDefEqProofs only [g1, g3, g7, g8, hlt', k0, hdk, q1, q2, hw2, hw, Bool.false_eq_true, eqA, eqD, go_sem]
      exact ⟨5 - (k + 1), by omega, k + 1, rfl, by omega, rfl, rfl⟩
    · obtain rfl : k = 5 := by omega
      have e5 : ¬ ((5 : Nat) : Int) < 5 := by omega
      simp -implicitDefEqProofs only [g1, g3, g7, g8, e5, Int.lt_irrefl, Bool.false_eq_true, eqA, eqD, go_sem]
theorem c_mNew0 : CW MN 41 [.int .i64 0] H fun v H' => v = .ptr none ∧ H' = H := by
  refine CW_of (fn := af41) rfl ?_
  dsimp only [af41, qm, q, qG, qn, qi, qb, qB, qk, qc, qo, qg, qv, qr]
  simp -implicitDefEqProofs only [eqA, eqD, go_sem]
theorem c_cNew : CW MN 39 [] H fun v H' => v = .ptr (some (H.next, 0)) ∧ H' = H.newRow [.int .i64 0, .int .i64 0, .int .i64 0] := by
  refine CW_of (fn := af39) rfl ?_
  dsimp only [af39, qm, q, qG, qn, qi, qb, qB, qk, qc, qo, qg, qv, qr]
  simp -implicitDefEqProofs only [eqA, eqD, go_sem]
structure HN (A : PA) (n : Nat → Nat) (k : Nat) (H : AHeap) : Prop where
  blk : ∃ f, Blk H A.b 12 f ∧ (∀ s, s < k → f s = hb A n s ∧ f (5 + s) = hb A n (5 + s)) ∧ (∀ s, k ≤ s → s < 5 → f (5 + s) = .ptr none) ∧ f 10 = hb A n 10 ∧ f 11 = hb A n 11
  wrd : ∀ s, s < k → Blk H (A.w s) (n s * wds s) fun _ => .int .u32 0
  mil : ∀ s, s < k → n s ≠ 0 → MillR H (A.ml s) (n s) (newMl (n s))
  tab : TabR H A.tb A.r1 A.r2 fun _ => none
  met : ∃ f t, Blk H A.me 3 f ∧ f 0 = .int .i64 t ∧ 0 ≤ t ∧ t ≤ 1152921504606846976
  tb_ : A.T A.b = 1
  tt : A.T A.tb = 2 ∧ A.T A.r1 = 2 ∧ A.T A.r2 = 2
  tm : A.T A.me = 3
  tw : ∀ s, s < k → A.T (A.w s) = 10 + s
  tl : ∀ s, s < k → n s ≠ 0 → ∀ x, (A.ml s).d x → A.T x = 20 + s
  new : ∀ x, H.next ≤ x → A.T x = 0
theorem rows0 (H : AHeap) (m : Nat) : Blk (H.newRow (List.replicate m (AV.int .u32 0))) H.next m fun _ => .int .u32 0 := by
  have := Blk.newRow H (List.replicate m (AV.int .u32 0)) (fun _ => .int .u32 0) fun i v hv => by
    rw [List.getElem?_replicate] at hv
    split at hv
    · exact Option.some.inj hv
    · cases hv
  rwa [List.length_replicate] at this
open Classical in
theorem HN.step {A : PA} {n : Nat → Nat} {k : Nat} {H H1 H2 H3 H4 : AHeap} (h : HN A n k H) (hk : k < 5) (e1 : H1 = H.newRow (List.replicate (n k * wds k) (AV.int .u32 0))) (e2 : storeA H1 A.b k [.slice (some (H.next, 0)) 1 (n k * wds k) true] = some H2) {mp : AV} {a : MA}
    (hm : (n k = 0 ∧ mp = .ptr none ∧ H3 = H2) ∨ (n k ≠ 0 ∧ mp = .ptr (some (a.mb, 0)) ∧ MillR H3 a (n k) (newMl (n k)) ∧ Sm H2 H3 ∧ ∀ x, a.d x → H2.next ≤ x)) (e4 : storeA H3 A.b (5 + k) [mp] = some H4) :
    ∃ A' : PA, A'.b = A.b ∧ HN A' n (k + 1) H4 ∧ H.next ≤ H4.next ∧ (∀ x, x < H.next → x ≠ A.b → H4.get x = H.get x) ∧ ∀ x, x < H.next → A'.T x = A.T x := by
  obtain ⟨f, hf, hf1, hf2, hf3, hf4⟩ := h.blk
  have s1 : Sm H H1 := by rw [e1]; exact Chg.newRow H _
  have n1 : H1.next = H.next + 1 := by rw [e1]; rfl
  have w1 : Blk H1 H.next (n k * wds k) fun _ => .int .u32 0 := by rw [e1]; exact rows0 H _
  have f1 := hf.keep' (H' := H1) s1.1 (s1.gt hf.1)
  obtain ⟨G2, p1, p2, p3, p4⟩ := f1.store (i := k) (by omega) (.slice (some (H.next, 0)) 1 (n k * wds k) true)
  rw [e2] at p1
  obtain rfl := Option.some.inj p1
  have s3 : Sm H2 H3 := by
    rcases hm with ⟨-, -, rfl⟩ | ⟨-, -, -, s, -⟩
    · exact Chg.refl _
    · exact s
  have f3 := p2.keep' (H' := H3) s3.1 (s3.gt (by have := hf.1; omega))
  obtain ⟨G4, q1, q2, q3, q4⟩ := f3.store (i := 5 + k) (by omega) mp
  rw [e4] at q1
  obtain rfl := Option.some.inj q1
  have hbl := hf.1
  have hn3 := s3.1
  have keep : ∀ x, x < H.next → x ≠ A.b → H4.get x = H.get x := fun x hx hne => by
    rw [q4 x hne, s3.gt (by omega), p4 x hne, s1.gt hx]
  have nb : ∀ x, A.T x ≠ 1 → x ≠ A.b := fun x hx e => hx (e ▸ h.tb_)
  have lt : ∀ x, A.T x ≠ 0 → x < H.next := fun x hx => by
    apply Classical.byContradiction
    intro hge
    exact hx (h.new x (by omega))
  have kp : ∀ x, A.T x ≠ 0 → A.T x ≠ 1 → H4.get x = H.get x := fun x h0 h1 => keep x (lt x h0) (nb x h1)
  let D : Nat → Prop := fun x => n k ≠ 0 ∧ a.d x
  have hD : ∀ x, D x → H2.next ≤ x ∧ x < H3.next := fun x ⟨hn, hx⟩ => by
    rcases hm with ⟨h0, -⟩ | ⟨-, -, hM, -, hh⟩
    · exact absurd h0 hn
    · exact ⟨hh x hx, hM.lt hx⟩
  let T' : Nat → Nat := fun x => if x = H.next then 10 + k else if D x then 20 + k else A.T x
  have T_old : ∀ x, x < H.next → T' x = A.T x := fun x hx => by
    show (if x = H.next then 10 + k else if D x then 20 + k else A.T x) = _
    rw [if_neg (by omega), if_neg (fun hd => by have := hD x hd; omega)]
  have T_k : ∀ x, A.T x ≠ 0 → T' x = A.T x := fun x hx => T_old x (lt x hx)
  refine ⟨⟨A.b, A.tb, A.r1, A.r2, A.me, upd A.w k H.next, upd A.ml k a, T'⟩, rfl, ⟨?_, fun s hs => ?_, fun s hs hn => ?_, ?_, ?_, ?_, ?_, ?_, fun s hs => ?_, fun s hs hn x hx => ?_, fun x hx => ?_⟩, by omega, keep, T_old⟩
  · refine ⟨_, q2, fun s hs => ?_, fun s hs hs5 => ?_, ?_, ?_⟩
    · by_cases e : s = k
      · subst e
        refine ⟨?_, ?_⟩
        · rw [upd_ne (by omega), upd_same]
          show _ = hb _ n s
          unfold hb
          rw [if_pos hk]
          show _ = AV.slice (some (upd A.w s H.next s, 0)) 1 (n s * wds s) true
          rw [upd_same]
        · rw [upd_same, hb_mill hk]
          show mp = if n s = 0 then AV.ptr none else AV.ptr (some ((upd A.ml s a s).mb, 0))
          rw [upd_same]
          rcases hm with ⟨h0, e, -⟩ | ⟨h0, e, -⟩
          · rw [if_pos h0, e]
          · rw [if_neg h0, e]
      · obtain ⟨g1, g2⟩ := hf1 s (by omega)
        refine ⟨?_, ?_⟩
        · rw [upd_ne (by omega), upd_ne e, g1]
          unfold hb
          rw [if_pos (by omega), if_pos (by omega)]
          show _ = AV.slice (some (upd A.w k H.next s, 0)) 1 (n s * wds s) true
          rw [upd_ne e]
        · rw [upd_ne (by omega), upd_ne (by omega), g2, hb_mill (by omega), hb_mill (by omega)]
          show _ = if n s = 0 then AV.ptr none else AV.ptr (some ((upd A.ml k a s).mb, 0))
          rw [upd_ne e]
    · rw [upd_ne (by omega), upd_ne (by omega)]
      exact hf2 s (by omega) hs5
    · rw [upd_ne (by omega), upd_ne (by omega), hf3]; rfl
    · rw [upd_ne (by omega), upd_ne (by omega), hf4]; rfl
  · show Blk H4 (upd A.w k H.next s) _ _
    by_cases e : s = k
    · subst e
      rw [upd_same]
      exact w1.keep' (by omega) (by rw [q4 _ (by omega), s3.gt (by omega), p4 _ (by omega)])
    · rw [upd_ne e]
      have ht := h.tw s (by omega)
      exact (h.wrd s (by omega)).keep' (by omega) (kp _ (by omega) (by omega))
  · show MillR H4 (upd A.ml k a s) _ _
    by_cases e : s = k
    · subst e
      rw [upd_same]
      rcases hm with ⟨h0, -⟩ | ⟨-, -, hM, -, hh⟩
      · exact absurd h0 hn
      · exact hM.keep (by omega) fun x hx => q4 x (by have := hh x hx; omega)
    · rw [upd_ne e]
      refine (h.mil s (by omega) hn).keep (by omega) fun x hx => ?_
      have ht := h.tl s (by omega) hn x hx
      exact kp x (by omega) (by omega)
  · exact h.tab.keep (by omega) (kp _ (by rw [h.tt.1]; omega) (by rw [h.tt.1]; omega)) (kp _ (by rw [h.tt.2.1]; omega) (by rw [h.tt.2.1]; omega)) (kp _ (by rw [h.tt.2.2]; omega) (by rw [h.tt.2.2]; omega))
  · obtain ⟨g, t, hg, hr⟩ := h.met
    exact ⟨g, t, hg.keep' (by omega) (kp _ (by rw [h.tm]; omega) (by rw [h.tm]; omega)), hr⟩
  · show T' A.b = 1
    rw [T_k _ (by rw [h.tb_]; omega), h.tb_]
  · show T' A.tb = 2 ∧ T' A.r1 = 2 ∧ T' A.r2 = 2
    rw [T_k _ (by rw [h.tt.1]; omega), T_k _ (by rw [h.tt.2.1]; omega), T_k _ (by rw [h.tt.2.2]; omega)]
    exact h.tt
  · show T' A.me = 3
    rw [T_k _ (by rw [h.tm]; omega), h.tm]
  · show T' (upd A.w k H.next s) = 10 + s
    by_cases e : s = k
    · subst e
      rw [upd_same]
      show (if H.next = H.next then _ else _) = _
      rw [if_pos rfl]
    · rw [upd_ne e, T_k _ (by rw [h.tw s (by omega)]; omega), h.tw s (by omega)]
  · show T' x = 20 + s
    have hx' : (upd A.ml k a s).d x := hx
    by_cases e : s = k
    · subst e
      rw [upd_same] at hx'
      have hdx : D x := ⟨hn, hx'⟩
      have := hD x hdx
      show (if x = H.next then _ else if D x then _ else _) = _
      rw [if_neg (by omega), if_pos hdx]
    · rw [upd_ne e] at hx'
      have ht := h.tl s (by omega) hn x hx'
      rw [T_k _ (by omega), ht]
  · show (if x = H.next then _ else if D x then _ else A.T x) = 0
    rw [if_neg (by omega), if_neg (fun hd => by have := hD x hd; omega)]
    exact h.new x (by omega)
def emptyM (n : Nat → Nat) : HM := ⟨fun _ => none, fun s => newMl (n s), fun _ => (0, [])⟩
theorem empty_ok {n : Nat → Nat} (hc : Cfg n) : HOk n (emptyM n) := by
  refine ⟨fun s _ => newMl_ok (n s), fun i j p hi => (by cases hi), fun i p hi => (by cases hi), fun i p hi => (by cases hi), fun s k c _ h1 _ hc => ?_, fun i p hi => (by cases hi), hc.hi, hc.max⟩
  have : newMl (n s) k = [] := by unfold newMl; rw [if_neg (by omega)]
  have hc' : c ∈ newMl (n s) k := hc
  rw [this] at hc'; cases hc'
theorem HN.full {A : PA} {n : Nat → Nat} {H : AHeap} (hc : Cfg n) (h : HN A n 5 H) : HR A n H (emptyM n) := by
  obtain ⟨f, hf, hf1, -, hf3, hf4⟩ := h.blk
  refine ⟨empty_ok hc, fun _ _ => .int .u32 0, ⟨hf.congr fun i hi => ?_, h.wrd, h.mil, h.tab, h.met, h.tb_, h.tt, h.tm, h.tw, h.tl, h.new⟩, fun i p hi => (by cases hi), fun i p hi => (by cases hi)⟩
  by_cases h5 : i < 5
  · exact (hf1 i h5).1
  · by_cases h10 : i < 10
    · have := (hf1 (i - 5) (by omega)).2
      rwa [show 5 + (i - 5) = i by omega] at this
    · by_cases e : i = 10
      · rw [e]; exact hf3
      · obtain rfl : i = 11 := by omega
        exact hf4
theorem c_hNew {n : Nat → Nat} (hc : Cfg n) {p : Int} (p1 : 1 ≤ p) (p2 : p ≤ 16) : CW MN 9 [.agg (cfgC n p)] H fun v H' => ∃ A : PA, v = .ptr (some (A.b, 0)) ∧ HR A n H' (emptyM n) ∧ Sm H H' ∧ ∀ x, x < H.next → A.T x = 0 := by
  refine CW_of (fn := af9) rfl ?_
  dsimp only [af9, qm, q, qG, qn, qi, qb, qB, qk, qc, qo, qg, qv, qr]
  have r1 := Rd.newRow H (cfgC n p)
  have s1 := Chg.newRow H (cfgC n p)
  have n1 : (H.newRow (cfgC n p)).next = H.next + 1 := rfl
  have eC := eq_of_heq (HEq.refl (cfgC n p))
  unfold cfgC at r1 s1 n1 ⊢
  generalize eH1 : H.newRow [.int .i64 (n 0), .int .i64 (n 1), .int .i64 (n 2), .int .i64 (n 3), .int .i64 (n 4), .int .i64 p] = H1 at *
  have l6 : loadA H1 H.next 0 6 = some (cfgC n p) := r1.load rfl
  unfold cfgC at l6
  simp -implicitDefEqProofs only [eH1, l6, eqA, eqD, go_sem]
  refine CW.mono (c_Right hc p1 p2) ?_
  rintro v H2 ⟨rfl, s2⟩
  simp -implicitDefEqProofs only [bne_self_eq_false, Bool.false_eq_true, eqA, eqD, go_sem]
  refine CW.mono (c_New H2) ?_
  rintro v H3 ⟨tb, r1', r2', rfl, t3, b1, b2, b3, ev3⟩
  have s3 : Sm H2 H3 := Chg.of_evo ev3
  simp -implicitDefEqProofs only [eqA, eqD, go_sem]
  refine CW.mono c_cNew ?_
  rintro v H4 ⟨rfl, rfl⟩
  have s4 := Chg.newRow H3 [.int .i64 0, .int .i64 0, .int .i64 0]
  have bm := Blk.new H3 [.int .i64 0, .int .i64 0, .int .i64 0] (n := 3) rfl
  have n4 : (H3.newRow [.int .i64 0, .int .i64 0, .int .i64 0]).next = H3.next + 1 := rfl
  generalize H3.newRow [.int .i64 0, .int .i64 0, .int .i64 0] = H4 at *
  have s5 := Chg.newRow H4 [.slice none 1 0 true, .slice none 1 0 true, .slice none 1 0 true, .slice none 1 0 true, .slice none 1 0 true, .ptr none, .ptr none, .ptr none, .ptr none, .ptr none, .ptr (some (tb, 0)), .ptr (some (H3.next, 0))]
  have bb := Blk.new H4 [.slice none 1 0 true, .slice none 1 0 true, .slice none 1 0 true, .slice none 1 0 true, .slice none 1 0 true, .ptr none, .ptr none, .ptr none, .ptr none, .ptr none, .ptr (some (tb, 0)), .ptr (some (H3.next, 0))] (n := 12) rfl
  have n5 : (H4.newRow [.slice none 1 0 true, .slice none 1 0 true, .slice none 1 0 true, .slice none 1 0 true, .slice none 1 0 true, .ptr none, .ptr none, .ptr none, .ptr none, .ptr none, .ptr (some (tb, 0)), .ptr (some (H3.next, 0))]).next = H4.next + 1 := rfl
  have lt3 := t3.lts
  have l5 : ∀ G, Sm H1 G → loadA G H.next 0 5 = some [.int .i64 (n 0), .int .i64 (n 1), .int .i64 (n 2), .int .i64 (n 3), .int .i64 (n 4)] := fun G hG => by
    rw [hG.ld (by omega)]; exact (r1.pre 5).load rfl
  have hL := fun k (hk : k < 5) => cfg_at n hk
  generalize eH5 : H4.newRow [.slice none 1 0 true, .slice none 1 0 true, .slice none 1 0 true, .slice none 1 0 true, .slice none 1 0 true, .ptr none, .ptr none, .ptr none, .ptr none, .ptr none, .ptr (some (tb, 0)), .ptr (some (H3.next, 0))] = H5 at *
  have m5 := l5 H5 (s2.trans (s3.trans (s4.trans s5)))
  generalize ([.int .i64 (n 0), .int .i64 (n 1), .int .i64 (n 2), .int .i64 (n 3), .int .i64 (n 4)] : List AV) = L at m5 hL
  have sAll : Sm H H5 := s1.trans (s2.trans (s3.trans (s4.trans s5)))
  have h0 : HN ⟨H4.next, tb, r1', r2', H3.next, fun _ => 0, fun _ => ⟨0, 0, 0, 0, 0⟩, fun x => if x = H4.next then 1 else if x = tb ∨ x = r1' ∨ x = r2' then 2 else if x = H3.next then 3 else 0⟩ n 0 H5 := by
    refine ⟨⟨_, bb, fun s hs => by omega, fun s _ hs => ?_, ?_, ?_⟩, fun s hs => by omega, fun s hs => by omega, t3.keep (by omega) (by rw [s5.gt (by omega), s4.gt (by omega)]) (by rw [s5.gt (by omega), s4.gt (by omega)]) (by rw [s5.gt (by omega), s4.gt (by omega)]), ⟨_, 0, bm.keep' s5.1 (s5.gt (by omega)), by simp [updL], by omega, by omega⟩, if_pos rfl, ?_, ?_, fun s hs => by omega, fun s hs => by omega, fun x hx => ?_⟩
    · match s, hs with
      | 0, _ => simp [updL]
      | 1, _ => simp [updL]
      | 2, _ => simp [updL]
      | 3, _ => simp [updL]
      | 4, _ => simp [updL]
    · simp [updL, hb]
    · simp [updL, hb]
    · dsimp only
      rw [if_neg (by omega), if_pos (.inl rfl), if_neg (by omega), if_pos (.inr (.inl rfl)), if_neg (by omega), if_pos (.inr (.inr rfl))]
      exact ⟨rfl, rfl, rfl⟩
    · dsimp only
      rw [if_neg (by omega), if_neg (by omega), if_pos rfl]
    · dsimp only
      rw [if_neg (by omega), if_neg (by omega), if_neg (by omega)]
  have hT0 : ∀ x, x < H.next → (fun x => if x = H4.next then 1 else if x = tb ∨ x = r1' ∨ x = r2' then 2 else if x = H3.next then 3 else 0) x = 0 := fun x hx => by
    have := s2.1
    have := s3.1
    have := s4.1
    dsimp only
    rw [if_neg (by omega), if_neg (by omega), if_neg (by omega)]
  obtain ⟨A0, hA0, h0, hT0⟩ : ∃ A0 : PA, A0.b = H4.next ∧ HN A0 n 0 H5 ∧ ∀ x, x < H.next → A0.T x = 0 := ⟨_, rfl, h0, hT0⟩
  simp -implicitDefEqProofs only [eH5, m5, eqA, eqD, go_sem]
  refine WP_mono (Q := fun ex fr G => ex = .exit 0 ∧ fr.get 3 = some (.ptr (some (H4.next, 0))) ∧ ∃ A : PA, A.b = H4.next ∧ HN A n 5 G ∧ Sm H G ∧ ∀ x, x < H.next → A.T x = 0) ?_ (WP_loop (fun m fr G => ∃ (k : Nat) (A : PA), m = 5 - k ∧ k ≤ 5 ∧ fr.get 3 = some (.ptr (some (H4.next, 0))) ∧ fr.get 14 = some (.agg L) ∧ fr.get 15 = some (.int .i64 k) ∧ A.b = H4.next ∧ HN A n k G ∧ Sm H G ∧ ∀ x, x < H.next → A.T x = 0) 5 ?_ ?_)
  · rintro ex fr G ⟨rfl, g3, A, hA, hN, hs, hT⟩
    simp -implicitDefEqProofs only [g3, eqA, eqD, go_sem]
    exact ⟨A, by rw [hA], hN.full hc, hs, hT⟩
  · refine ⟨0, A0, rfl, by omega, ?_⟩
    simp -implicitDefEqProofs only [eqA, eqD, go_sem]
    exact ⟨hA0, h0, sAll, hT0⟩
  · rintro m fr G ⟨k, A, hm, hk, g3, g14, g15, hA, hN, hs, hT⟩
    have k0 : (0 : Int) ≤ k := by omega
    by_cases hlt : k < 5
    · have hlt' : (k : Int) < 5 := by omega
      have hw := wrapS hlt (by omega)
      have hdk := hL k hlt
      have hmax := hc.max k hlt
      obtain ⟨w0, w1⟩ := wds_bd hlt
      have hs' : (k : Int) = -1 ∨ (k : Int) = 0 ∨ (k : Int) = 1 ∨ (k : Int) = 2 ∨ (k : Int) = 3 ∨ (k : Int) = 4 := by omega
      have bd : n k * wds k ≤ 512 * 64 := Nat.mul_le_mul hmax w1
      have w2 : IntKind.i64.wrap (((n k : Nat) : Int) * ((wds k : Nat) : Int)) = ((n k * wds k : Nat) : Int) := by rw [← Int.natCast_mul]; exact wrap64 (by omega) (by omega)
      simp -implicitDefEqProofs only [g3, g14, g15, hlt', k0, hdk, eqA, eqD, go_sem]
      refine CW.mono (c_fitWords hs') ?_
      rintro v G' ⟨rfl, rfl⟩
      rw [fitP_wds hlt]
      obtain ⟨f, hf, hf1, hf2, hf3, hf4⟩ := hN.blk
      rw [hA] at hf
      have fb := hf.1
      obtain ⟨G1, e1⟩ : ∃ G1, G1 = G'.newRow (List.replicate (n k * wds k) (AV.int .u32 0)) := ⟨_, rfl⟩
      have sg1 : Sm G' G1 := by rw [e1]; exact Chg.newRow _ _
      have f1 := hf.keep' (H' := G1) sg1.1 (sg1.gt fb)
      obtain ⟨G2, e2, p2, p3, p4⟩ := f1.store (i := k) (by omega) (.slice (some (G'.next, 0)) 1 (n k * wds k) true)
      have i3 : (0 : Int) ≤ ((n k * wds k : Nat) : Int) := by omega
      have i4 : ((n k * wds k : Nat) : Int) * 4 ≤ 140737488355328 := by omega
      have i5 : ((n k * wds k : Nat) : Int) ≤ 9223372036854775807 := by omega
      have i6 : (((n k * wds k : Nat) : Int)).toNat = n k * wds k := Int.toNat_natCast _
      generalize ((n k * wds k : Nat) : Int) = X at *
      simp -implicitDefEqProofs only [g3, g14, g15, w2, i3, i4, i5, i6, rep1, ← e1, e2, k0, hlt', eqA, eqD, go_sem]
      by_cases hn : n k = 0
      · obtain ⟨G4, e4, p5, p6, p7⟩ := p2.store (i := 5 + k) (by omega) (.ptr none)
        have hn0 : ((n k : Nat) : Int) = 0 := by omega
        rw [hn0]
        refine CW.mono c_mNew0 ?_
        rintro v Gz ⟨rfl, rfl⟩
        obtain ⟨A', hA', hN', hl', hk', hT'⟩ := hN.step hlt e1 (by rw [hA]; exact e2) (a := ⟨0, 0, 0, 0, 0⟩) (.inl ⟨hn, rfl, rfl⟩) (by rw [hA]; exact e4)
        simp -implicitDefEqProofs only [g3, g14, g15, e4, k0, hlt', hw, eqA, eqD, go_sem]
        refine ⟨5 - (k + 1), by omega, k + 1, A', rfl, by omega, rfl, by rw [hA', hA], hN', Sm.of (by have := hs.1; omega) fun x hx => ?_, fun x hx => by rw [hT' x (by have := hs.1; omega)]; exact hT x hx⟩
        have hxb : x ≠ A.b := fun e => by
          have := hT x hx
          rw [e, hN.tb_] at this; omega
        rw [hk' x (by have := hs.1; omega) hxb, hs.gt hx]
      · refine CW.mono (c_mNew (by omega) hmax) ?_
        rintro v G3 ⟨a, rfl, m3, sg3, hd3⟩
        have p2' := p2.keep' (H' := G3) sg3.1 (sg3.gt p2.1)
        obtain ⟨G4, e4, p5, p6, p7⟩ := p2'.store (i := 5 + k) (by omega) (.ptr (some (a.mb, 0)))
        obtain ⟨A', hA', hN', hl', hk', hT'⟩ := hN.step hlt e1 (by rw [hA]; exact e2) (a := a) (.inr ⟨hn, rfl, m3, sg3, hd3⟩) (by rw [hA]; exact e4)
        simp -implicitDefEqProofs only [g3, g14, g15, e4, k0, hlt', hw, eqA, eqD, go_sem]
        refine ⟨5 - (k + 1), by omega, k + 1, A', rfl, by omega, rfl, by rw [hA', hA], hN', Sm.of (by have := hs.1; omega) fun x hx => ?_, fun x hx => by rw [hT' x (by have := hs.1; omega)]; exact hT x hx⟩
        have hxb : x ≠ A.b := fun e => by
          have := hT x hx
          rw [e, hN.tb_] at this; omega
        rw [hk' x (by have := hs.1; omega) hxb, hs.gt hx]
    · obtain rfl : k = 5 := by omega
      have e5 : ¬ ((5 : Nat) : Int) < 5 := by omega
      simp -implicitDefEqProofs only [g3, g14, g15, e5, Int.lt_irrefl, Bool.false_eq_true, eqA, eqD, go_sem]
      exact ⟨A, hA, hN, hs, hT⟩
end
def idL : List Int := (List.range 1020).map fun k => ((k + 4 : Nat) : Int)
theorem mem_idL {i : Int} : i ∈ idL ↔ 4 ≤ i ∧ i < 1024 := by
  unfold idL
  rw [List.mem_map]
  constructor
  · rintro ⟨k, hk, rfl⟩
    rw [List.mem_range] at hk; omega
  · rintro ⟨h0, h1⟩
    exact ⟨(i - 4).toNat, by rw [List.mem_range]; omega, by omega⟩
def tkC (g : TG) (p : Pl) : Int × TG := if (idL.any fun i => g i == some p) = true then (-1, g) else match idL.find? fun i => (g i).isNone with
  | some i => (i, fset g i (some p))
  | none => (-1, g)
theorem tk_eq {g : TG} (hd : ∀ i p, g i = some p → 4 ≤ i ∧ i < 1024) (p : Pl) : tk g p = tkC g p := by
  unfold tkC
  by_cases h : ∃ i, g i = some p
  · obtain ⟨i, hi⟩ := h
    rw [tk_in ⟨i, hi⟩, if_pos]
    rw [List.any_eq_true]
    exact ⟨i, mem_idL.2 (hd i p hi), by rw [hi]; simp⟩
  · have hn : ∀ j, g j ≠ some p := fun j hj => h ⟨j, hj⟩
    rw [if_neg (by
      rw [List.any_eq_true]
      rintro ⟨i, -, hi⟩
      exact hn i (by simpa using hi))]
    cases hf : idL.find? fun i => (g i).isNone with
    | none =>
      rw [List.find?_eq_none] at hf
      exact tk_full hn fun j h4 h1 e => by
        have := hf j (mem_idL.2 ⟨h4, h1⟩)
        rw [e] at this; simp at this
    | some i =>
      rw [List.find?_eq_some_iff_getElem] at hf
      obtain ⟨h1, k, hk, e, h3⟩ := hf
      have gk : ∀ (k : Nat) (hk : k < idL.length), idL[k] = ((k + 4 : Nat) : Int) := fun k hk => by simp [idL]
      rw [gk] at e
      have hlen : idL.length = 1020 := by simp [idL]
      refine tk_at hn ⟨by omega, by omega, by simpa using h1, fun j j4 jlt hj => ?_⟩
      have := h3 (j - 4).toNat (by omega)
      rw [gk] at this
      rw [show (((j - 4).toNat + 4 : Nat) : Int) = j by omega, hj] at this
      simp at this
def allocC (h : HM) (c f : Int) : Int × HM := if szP f < 0 ∨ c < 0 ∨ 4095 < c then (-1, h) else match h.M (szP f).toNat 0 with
  | [] => (-1, h)
  | i :: _ => ((tkC h.g (szP f, i)).1, ⟨(tkC h.g (szP f, i)).2, upd h.M (szP f).toNat (mv (h.M (szP f).toNat) i 1), fset h.X (szP f, i) (c, List.replicate f.toNat 2)⟩)
theorem alloc_eq {n : Nat → Nat} {h : HM} (ok : HOk n h) (c f : Int) : allocM h c f = allocC h c f := by
  unfold allocM allocC
  split
  · rfl
  · cases h.M (szP f).toNat 0 with
    | nil => rfl
    | cons i l =>
      dsimp only
      rw [tk_eq ok.dom]
def kn : Nat → Nat := fun s => if s = 0 then 2 else if s = 1 then 1 else 0
theorem kn_cfg : Cfg kn := ⟨fun s _ => by unfold kn; split <;> (try split) <;> omega, by decide, by decide⟩
def k0 : HM := emptyM kn
def k1 : HM := (allocC k0 3 2).2
def k2 : HM := (allocC k1 4 1).2
def k3 : HM := (allocC k2 5 0).2
def k4 : HM := (allocC k3 2 6).2
def k5 : HM := (putM k4 4 1 12).2
def k6 : HM := (flipM k5).2
def k7 : HM := holdM k6 [8]
def k8 : HM := (flipM k7).2
def k9 : HM := (scanM k8 1).2
def kA : HM := (scanM k9 99).2
def kB : HM := (flipM kA).2
theorem kn_run : ((allocC k0 3 2).1 == 4 && (allocC k1 4 1).1 == 5 && (allocC k2 5 0).1 == -1 && (allocC k3 2 6).1 == 6) = true := by kernel_rfl
theorem kn_run2 : ((putM k4 4 1 12).1 && (flipM k5).1 == 0 && (flipM k7).1 == -1 && (scanM k8 1).1 == 4 && (scanM k9 99).1 == 8 && (flipM kA).1 == 1) = true := by kernel_rfl
theorem kn_run3 : (getM kB 4 1 == some 12 && (match obM kB 4 with | none => -1 | some x => x.1) == 3 && (match obM kB 5 with | none => -1 | some x => x.1) == -1 && (match obM kB 6 with | none => -1 | some x => (x.2.length : Int)) == 6 && (greyM kB).isNone && colorM kB 5 == -1 && !(putM kB 4 2 2).1 && !(putM kB 4 0 0).1) = true := by kernel_rfl
theorem kn_ids : (idsI kB.g == [4, 6]) = true := by kernel_rfl
set_option maxHeartbeats 4000000
section
variable {H : AHeap}
theorem c_RightZ : CW MN 37 [.agg [.int .i64 0, .int .i64 0, .int .i64 0, .int .i64 0, .int .i64 0, .int .i64 0]] H fun v H' => v = .int .i64 18 ∧ Sm H H' := by
  refine CW_of (fn := af37) rfl ?_
  dsimp only [af37, qm, q, qG, qn, qi, qb, qB, qk, qc, qo, qg, qv, qr]
  have r1 := Rd.newRow H [.int .i64 0, .int .i64 0, .int .i64 0, .int .i64 0, .int .i64 0, .int .i64 0]
  have s1 := Chg.newRow H [.int .i64 0, .int .i64 0, .int .i64 0, .int .i64 0, .int .i64 0, .int .i64 0]
  generalize eH1 : H.newRow [.int .i64 0, .int .i64 0, .int .i64 0, .int .i64 0, .int .i64 0, .int .i64 0] = H1 at *
  obtain ⟨L, l5, hL⟩ : ∃ L, loadA H1 H.next 0 5 = some L ∧ ∀ k, k < 5 → (L.drop k).take 1 = [.int .i64 0] := ⟨[.int .i64 0, .int .i64 0, .int .i64 0, .int .i64 0, .int .i64 0], (r1.pre 5).load rfl, fun k hk => cfg_at (fun _ => 0) hk⟩
  simp -implicitDefEqProofs only [eH1, l5, eqA, eqD, go_sem]
  refine WP_mono (Q := fun ex fr H' => ex = .exit 0 ∧ fr.get 1 = some (.ptr (some (H.next, 0))) ∧ fr.get 3 = some (.int .i64 0) ∧ H' = H1) ?_ (WP_loop (fun m fr H' => ∃ k : Nat, m = 5 - k ∧ k ≤ 5 ∧ fr.get 1 = some (.ptr (some (H.next, 0))) ∧ fr.get 3 = some (.int .i64 0) ∧ fr.get 7 = some (.agg L) ∧ fr.get 8 = some (.int .i64 k) ∧ H' = H1) 5 ?_ ?_)
  · rintro ex fr H' ⟨rfl, g1, g3, rfl⟩
    simp -implicitDefEqProofs only [g1, g3, eqA, eqD, go_sem]
    exact s1
  · refine ⟨0, rfl, by omega, ?_⟩
    simp -implicitDefEqProofs only [eqA, eqD, go_sem]
  · rintro m fr H' ⟨k, hm, hk, g1, g3, g7, g8, rfl⟩
    have kk : (0 : Int) ≤ k := by omega
    by_cases hlt : k < 5
    · have hlt' : (k : Int) < 5 := by omega
      have hw := wrapS hlt (by omega)
      have hdk := hL k hlt
      have w0 : IntKind.i64.wrap 0 = 0 := wrap64 (by omega) (by omega)
      simp -implicitDefEqProofs only [g1, g3, g7, g8, hlt', kk, hdk, hw, w0, Int.add_zero, Int.lt_irrefl, Bool.false_eq_true, eqA, eqD, go_sem]
      exact ⟨5 - (k + 1), by omega, k + 1, rfl, by omega, rfl⟩
    · obtain rfl : k = 5 := by omega
      have e5 : ¬ ((5 : Nat) : Int) < 5 := by omega
      simp -implicitDefEqProofs only [g1, g3, g7, g8, e5, Int.lt_irrefl, Bool.false_eq_true, eqA, eqD, go_sem]
theorem c_hNewZ : CW MN 9 [.agg [.int .i64 0, .int .i64 0, .int .i64 0, .int .i64 0, .int .i64 0, .int .i64 0]] H fun v H' => v = .ptr none ∧ Sm H H' := by
  refine CW_of (fn := af9) rfl ?_
  dsimp only [af9, qm, q, qG, qn, qi, qb, qB, qk, qc, qo, qg, qv, qr]
  have r1 := Rd.newRow H [.int .i64 0, .int .i64 0, .int .i64 0, .int .i64 0, .int .i64 0, .int .i64 0]
  have s1 := Chg.newRow H [.int .i64 0, .int .i64 0, .int .i64 0, .int .i64 0, .int .i64 0, .int .i64 0]
  have l6 := r1.load (n := 6) rfl
  simp -implicitDefEqProofs only [l6, eqA, eqD, go_sem]
  refine CW.mono c_RightZ ?_
  rintro v H2 ⟨rfl, s2⟩
  simp -implicitDefEqProofs only [eqA, eqD, go_sem]
  exact s1.trans s2
theorem c_Cost {A : PA} {n : Nat → Nat} {h : HM} (hr : HR A n H h) : CW MN 35 [.ptr (some (A.b, 0))] H fun v H' => v = .ptr (some (A.me, 0)) ∧ H' = H := by
  refine CW_of (fn := af35) rfl ?_
  dsimp only [af35, qm, q, qG, qn, qi, qb, qB, qk, qc, qo, qg, qv, qr]
  obtain ⟨F, hb, -⟩ := hr.hb
  simp -implicitDefEqProofs only [hb.lds.2, eqA, eqD, go_sem]
theorem u32lit {n : Nat} (h : n < 4294967296) : IntKind.u32.wrap (n : Int) = n := wrap32 (by omega) (by omega)
theorem putM_no {h : HM} {i k w : Int} (e : (putM h i k w).1 = false) : (putM h i k w).2 = h := by
  unfold putM at e ⊢
  cases hg : h.g i with
  | none => rfl
  | some p =>
    rw [hg] at e
    dsimp only at e ⊢
    split at e
    · cases e
    · rename_i hc
      rw [if_neg hc]
theorem c_known9 : CW MN 7 [] H fun v _ => v = .bool true := by
  refine CW_of (fn := af7) rfl ?_
  dsimp only [af7, qm, q, qG, qn, qi, qb, qB, qk, qc, qo, qg, qv, qr]
  have R1 := kn_run
  have R2 := kn_run2
  have R3 := kn_run3
  have R4 := kn_ids
  simp only [Bool.and_eq_true, beq_iff_eq] at R1 R2 R3 R4
  obtain ⟨⟨⟨a1, a2⟩, a3⟩, a4⟩ := R1
  obtain ⟨⟨⟨⟨⟨b1, b2⟩, b3⟩, b4⟩, b5⟩, b6⟩ := R2
  obtain ⟨⟨⟨⟨⟨⟨⟨d1, d2⟩, d3⟩, d4⟩, d5⟩, d6⟩, d7⟩, d8⟩ := R3
  simp only [Bool.not_eq_true'] at d7 d8
  have w12 : IntKind.u32.wrap 12 = 12 := u32lit (n := 12) (by omega)
  have w8 : IntKind.u32.wrap 8 = 8 := u32lit (n := 8) (by omega)
  have v12 : IntKind.i64.wrap 12 = 12 := wrap64 (by omega) (by omega)
  have v8 : IntKind.i64.wrap 8 = 8 := wrap64 (by omega) (by omega)
  have cfg : ([.int .i64 2, .int .i64 1, .int .i64 0, .int .i64 0, .int .i64 0, .int .i64 1] : List AV) = cfgC kn 1 := rfl
  simp -implicitDefEqProofs only [eqA, eqD, go_sem]
  rw [cfg]
  refine CW.mono (c_hNew kn_cfg (by omega) (by omega)) ?_
  rintro v H0 ⟨A, rfl, hr0, s0, -⟩
  simp -implicitDefEqProofs only [Bool.false_eq_true, eqA, eqD, go_sem]
  refine CW.mono c_hNewZ ?_
  rintro v H1 ⟨rfl, s1⟩
  have hr1 : HR A kn H1 k0 := (hr0.evoS s1).1
  simp -implicitDefEqProofs only [bne_self_eq_false, Bool.false_eq_true, eqA, eqD, go_sem]
  refine CW.mono (c_Alloc hr1 (c := 3) (f := 2) (by omega)) ?_
  rintro v H2 ⟨rfl, hr2, -⟩
  rw [alloc_eq hr1.ok] at hr2 ⊢
  have hr2 : HR A kn H2 k1 := hr2
  rw [a1]
  simp -implicitDefEqProofs only [eqA, eqD, go_sem]
  refine CW.mono (c_Alloc hr2 (c := 4) (f := 1) (by omega)) ?_
  rintro v H3 ⟨rfl, hr3, -⟩
  rw [alloc_eq hr2.ok] at hr3 ⊢
  have hr3 : HR A kn H3 k2 := hr3
  rw [a2]
  simp -implicitDefEqProofs only [eqA, eqD, go_sem]
  refine CW.mono (c_Alloc hr3 (c := 5) (f := 0) (by omega)) ?_
  rintro v H4 ⟨rfl, hr4, -⟩
  rw [alloc_eq hr3.ok] at hr4 ⊢
  have hr4 : HR A kn H4 k3 := hr4
  rw [a3]
  simp -implicitDefEqProofs only [eqA, eqD, go_sem]
  refine CW.mono (c_Alloc hr4 (c := 2) (f := 6) (by omega)) ?_
  rintro v H5 ⟨rfl, hr5, -⟩
  rw [alloc_eq hr4.ok] at hr5 ⊢
  have hr5 : HR A kn H5 k4 := hr5
  rw [a4]
  have e12 : IntKind.u32.wrap (IntKind.i64.wrap (2 * 6)) = ((12 : Nat) : Int) := by decide
  have e8 : IntKind.u32.wrap (IntKind.i64.wrap (2 * 4)) = 8 := by decide
  have e12' : IntKind.u32.wrap (IntKind.i64.wrap (2 * 6)) = 12 := by decide
  simp -implicitDefEqProofs only [convA, eqA, eqD, go_sem]
  rw [e12]
  refine CW.mono (c_Put hr5 4 1 (w := 12) (by omega)) ?_
  rintro v H6 ⟨hv, hr6, -⟩
  obtain rfl : v = .bool true := hv.trans (congrArg _ b1)
  have hr6 : HR A kn H6 k5 := hr6
  simp -implicitDefEqProofs only [eqA, eqD, go_sem]
  refine CW.mono (c_Flip hr6) ?_
  rintro v H7 ⟨hv, hr7, -⟩
  obtain rfl : v = .int .i64 0 := hv.trans (congrArg _ b2)
  have hr7 : HR A kn H7 k6 := hr7
  have r8 := Rd.newRow H7 [.int .u32 8]
  have s8 := Chg.newRow H7 [.int .u32 8]
  have T8 : A.T H7.next = 0 := by obtain ⟨F, hb, -⟩ := hr7.hb; exact hb.new _ (Nat.le_refl _)
  generalize eH8 : H7.newRow [.int .u32 8] = H8 at *
  have hr8 := (hr7.evoS s8).1
  simp -implicitDefEqProofs only [convA, e8, eH8, eqA, eqD, go_sem]
  refine CW.mono (c_Hold hr8 (l := [8]) ⟨some (H7.next, 0), 1, true, rfl, by decide, fun w hw => ?_, fun _ => ⟨H7.next, 0, rfl, T8, r8⟩⟩) ?_
  · have : w = 8 := by simpa using hw
    subst this
    exact ⟨by omega, by omega⟩
  rintro v H9 ⟨hr9, -⟩
  have hr9 : HR A kn H9 k7 := hr9
  simp -implicitDefEqProofs only [eqA, eqD, go_sem]
  refine CW.mono (c_Flip hr9) ?_
  rintro v HA ⟨hv, hrA, -⟩
  obtain rfl : v = .int .i64 (-1) := hv.trans (congrArg _ b3)
  have hrA : HR A kn HA k8 := hrA
  simp -implicitDefEqProofs only [eqA, eqD, go_sem]
  refine CW.mono (c_Scan hrA 1) ?_
  rintro v HB ⟨hv, hrB, -⟩
  obtain rfl : v = .int .i64 4 := hv.trans (congrArg _ b4)
  have hrB : HR A kn HB k9 := hrB
  simp -implicitDefEqProofs only [eqA, eqD, go_sem]
  refine CW.mono (c_Scan hrB 99) ?_
  rintro v HC ⟨hv, hrC, -⟩
  obtain rfl : v = .int .i64 8 := hv.trans (congrArg _ b5)
  have hrC : HR A kn HC kA := hrC
  simp -implicitDefEqProofs only [eqA, eqD, go_sem]
  refine CW.mono (c_Flip hrC) ?_
  rintro v HD ⟨hv, hrD, -⟩
  obtain rfl : v = .int .i64 1 := hv.trans (congrArg _ b6)
  have hrD : HR A kn HD kB := hrD
  simp -implicitDefEqProofs only [eqA, eqD, go_sem]
  refine CW.mono (c_Get hrD 4 1) ?_
  rintro v HE ⟨hv, hrE, -⟩
  obtain rfl : v = .tuple [.int .u32 12, .bool true] := by rw [hv, d1]; rfl
  simp -implicitDefEqProofs only [convA, e12', eqA, eqD, go_sem]
  refine CW.mono (c_Class hrE 4) ?_
  rintro v HF ⟨hv, hrF, -⟩
  obtain rfl : v = .int .i64 3 := hv.trans (congrArg _ d2)
  simp -implicitDefEqProofs only [eqA, eqD, go_sem]
  refine CW.mono (c_Class hrF 5) ?_
  rintro v HG ⟨hv, hrG, -⟩
  obtain rfl : v = .int .i64 (-1) := hv.trans (congrArg _ d3)
  simp -implicitDefEqProofs only [eqA, eqD, go_sem]
  refine CW.mono (c_Fields hrG 6) ?_
  rintro v HI ⟨hv, hrI, -⟩
  obtain rfl : v = .int .i64 6 := hv.trans (congrArg _ d4)
  simp -implicitDefEqProofs only [eqA, eqD, go_sem]
  refine CW.mono (c_IDsH hrI) ?_
  rintro v HJ ⟨sv, sJ⟩
  rw [R4] at sv
  have rK := Rd.newRow HJ [.int .i64 4, .int .i64 6]
  have sK := Chg.newRow HJ [.int .i64 4, .int .i64 6]
  generalize eHK : HJ.newRow [.int .i64 4, .int .i64 6] = HK at *
  have hrK := (hrI.evoS (sJ.trans sK)).1
  simp -implicitDefEqProofs only [eHK, eqA, eqD, go_sem]
  refine CW.mono (c_Same (l := [4, 6]) (sv.keep sK) ⟨_, 1, true, rfl, fun _ => ⟨_, _, rfl, rK⟩⟩ (by decide)) ?_
  rintro v HL ⟨rfl, rfl⟩
  simp -implicitDefEqProofs only [eqA, eqD, go_sem]
  refine CW.mono (c_Done hrK) ?_
  rintro v HM ⟨hv, rfl⟩
  obtain rfl : v = .bool true := hv.trans (congrArg _ d5)
  simp -implicitDefEqProofs only [eqA, eqD, go_sem]
  refine CW.mono (c_Cost hrK) ?_
  rintro v HN ⟨rfl, rfl⟩
  simp -implicitDefEqProofs only [eqA, eqD, go_sem]
  refine CW.mono (c_Color hrK 5) ?_
  rintro v HO ⟨hv, hrO, -⟩
  obtain rfl : v = .int .i64 (-1) := hv.trans (congrArg _ d6)
  simp -implicitDefEqProofs only [eqA, eqD, go_sem]
  have c2 : (2 : Int) = ((2 : Nat) : Int) := rfl
  refine CW.mono (c_Put hrO 4 2 (w := 2) (by omega)) ?_
  rintro v HP ⟨hv, hrP, -⟩
  obtain rfl : v = .bool false := hv.trans (congrArg _ d7)
  have hrP : HR A kn HP kB := by
    have e : (putM kB 4 2 ((2 : Nat) : Int)).2 = kB := putM_no d7
    rwa [e] at hrP
  simp -implicitDefEqProofs only [eqA, eqD, go_sem]
  refine CW.mono (c_Put hrP 4 0 (w := 0) (by omega)) ?_
  rintro v HQ ⟨hv, -, -⟩
  obtain rfl : v = .bool false := hv.trans (congrArg _ d8)
  simp -implicitDefEqProofs only [eqA, eqD, go_sem]
end
end Go.Proofs.YtaihjlemofgokaaGreat.AA
