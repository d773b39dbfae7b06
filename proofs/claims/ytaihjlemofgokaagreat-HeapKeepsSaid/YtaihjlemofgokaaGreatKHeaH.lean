/- The reference's scans, flips, new objects; both side by side; the law. -/
import Derived.Test.YtaihjlemofgokaaGreatKHeaG
set_option linter.unusedSimpArgs false
set_option linter.unusedVariables false
namespace Go.Proofs.YtaihjlemofgokaaGreat.AA
open Go Go.RowKit
attribute [local go_sem ↓] exA_lookup stepA_lookup exA_mapEnt exA_entSt exA_delete exA_mapUpd WP_seq WP_skip WP_region WP_dregion WP_cond WP_block WP_exit WP_ret OW_nil OW_cons DW_nil DW_cons XW_call reduceIte OW_guard DW_guard
attribute [local go_sem] LkA_some EvA_some entL_some updM_some at0 at1 at2 XW exA KO_eq OptK_some EvK_some GW2_true GW2_false KS_normal KS_ret KS_exit KB_normal KB_ret KB_exit CP2_bool RP_ret RP_normal putA_some putA_none ev_t ev_c evs evo wantA initA resA Tr.get_set vl chkOk cond_true cond_false Nat.add_zero Nat.mul_one Nat.one_mul Nat.zero_add Nat.zero_mul aggOf pInt binA unA intA beq_true beq_false Bool.not_true Bool.not_false Bool.not_eq_true and_self and_true true_and reduceIte Nat.reduceEqDiff Nat.succ_ne_self Nat.reduceAdd Nat.reduceMul Nat.reduceSub Nat.reduceBEq Nat.reduceLT Nat.reduceLeDiff Int.cast_ofNat_Int Int.reduceToNat Int.reduceLT Int.reduceLE Int.reduceGE Int.reduceGT Int.reduceEq Int.reduceNe Int.reduceAdd Int.reduceSub Int.reduceNeg decide_true decide_false Int.toNat_natCast reduceCtorEq List.nil_append List.cons_append AV.boxy AV.cells List.length_cons List.length_nil Nat.beq_refl AOp.cl KDW_0 KDW_1 KDW_2 OWskip_eq DWskip_eq fillA setAt DChk DAt stepA ble_dec beq_dec Bool.and_self Bool.and_true Bool.true_and Bool.and_false Bool.false_and List.take_succ_cons List.take_zero List.drop_succ_cons List.drop_zero List.take_nil List.drop_nil List.append_nil eqAV eqAVL BEq.rfl sameS Option.map Option.isNone wrap64 gt_iff_lt ge_iff_le Int.lt_irrefl Int.le_refl
set_option maxRecDepth 100000
set_option maxHeartbeats 4000000
attribute [local irreducible] Tr.set
section
variable {R : RA} {n : Nat → Nat} {H H' : AHeap} {h : HM} {c : Pl → Option (Int × AV)}
theorem LW.rowX {v : AV} {l : List Int} (h : LW R.T R.lo H v l) (hm : l.length ≤ 9223372036854775807) (hu : ∀ w, w ∈ l → U32 w) : RowX R H v l := by
  rcases h with ⟨rfl, a, s0, cl, rfl, -⟩ | ⟨x, o, cl, rfl, -, hT, hr⟩
  · exact ⟨a, s0, cl, rfl, hm, hu, fun h => absurd rfl h⟩
  · exact ⟨_, _, _, rfl, hm, hu, fun _ => ⟨x, o, rfl, hT, hr⟩⟩
theorem c_rScanH (hr : RR R n H h) (w : Int) : CW MN 22 [.ptr (some (R.b, 0)), .int .i64 w] H fun v H' => v = .int .i64 (scanM h w).1 ∧ RR R n H' (scanM h w).2 ∧ Evo R.d H H' := by
  refine CW_of (fn := af22) rfl ?_
  dsimp only [af22, qm, q, qG, qn, qi, qb, qB, qk, qc, qo, qg, qv, qr]
  have hlim : mnL false (.int .i64 w) [.int .i64 1048576] = some (.int .i64 (min w 1048576)) := by
    simp only [mnL, mnA, cond_false]
    by_cases c : (1048576 : Int) < w
    · rw [if_pos c, Int.min_eq_right (by omega)]
    · rw [if_neg c, Int.min_eq_left (by omega)]
  generalize hL : min w 1048576 = lim at *
  have hl : lim ≤ 1048576 := by omega
  obtain ⟨li, hli⟩ : ∃ li : Int, li = max lim 0 := ⟨_, rfl⟩
  have hlim2 : mnL true (.int .i64 lim) [.int .i64 0] = some (.int .i64 li) := by
    rw [hli]
    simp only [mnL, mnA, cond_true]
    by_cases c : lim < (0 : Int)
    · rw [if_pos c, Int.max_eq_right (by omega)]
    · rw [if_neg c, Int.max_eq_left (by omega)]
  simp -implicitDefEqProofs only [hlim, hlim2, eqA, eqD, go_sem]
  refine WP_mono (Q := fun ex fr H1 => ex = .exit 0 ∧ fr.get 5 = some (.int .i64 (scanM h w).1) ∧ RR R n H1 (scanM h w).2 ∧ Evo R.d H H1) ?_ (WP_loop (fun m fr H1 => ∃ (j : Nat) (d : Int) (h1 : HM), m = 262144 - j ∧ j ≤ 262144 ∧ 4 * (j : Int) ≤ d ∧ d ≤ 1048640 ∧ scanN (262145 - j) lim d h1 = scanM h w ∧ fr.get 0 = some (.ptr (some (R.b, 0))) ∧ fr.get 1 = some (.int .i64 li) ∧ fr.get 5 = some (.int .i64 d) ∧ RR R n H1 h1 ∧ Evo R.d H H1) 262144 ?_ ?_)
  · rintro ex fr H1 ⟨rfl, g5, hr1, ev1⟩
    simp -implicitDefEqProofs only [g5, eqA, eqD, go_sem]
    exact ⟨hr1, ev1⟩
  · refine ⟨0, 0, h, rfl, by omega, by omega, by omega, by unfold scanM; rw [hL], ?_⟩
    simp -implicitDefEqProofs only [eqA, eqD, go_sem]
    exact ⟨hr, Evo.refl _ _⟩
  · rintro m fr H1 ⟨j, d, h1, hm, hj, hd, hd2, hsc, g0, g1, g5, hr1, ev1⟩
    rw [show 262145 - j = (262144 - j) + 1 by omega] at hsc
    unfold scanN at hsc
    obtain ⟨G, hG⟩ : ∃ G, G = (greyM h1).isNone := ⟨_, rfl⟩
    by_cases hdl : d < lim
    · have hdl' : d < li := by omega
      simp -implicitDefEqProofs only [g0, g1, g5, hdl', eqA, eqD, go_sem]
      refine CW.mono (c_rDone hr1) ?_
      rw [← hG]
      rintro v H' ⟨rfl, rfl⟩
      cases hg : greyM h1 with
      | none =>
        rw [hg] at hsc hG
        obtain rfl : G = true := hG
        simp -implicitDefEqProofs only [g0, g1, g5, Bool.false_eq_true, eqA, eqD, go_sem]
        rw [← hsc]
        exact ⟨rfl, hr1, ev1⟩
      | some s =>
        rw [hg] at hsc hG
        obtain rfl : G = false := hG
        dsimp only at hsc
        rw [if_pos hdl] at hsc
        obtain ⟨hs, hne, hbel⟩ := greyM_some hg
        have s0 : (0 : Int) ≤ s := by omega
        have s5 : (s : Int) < 5 := by omega
        have hjlt : j < 262144 := by omega
        obtain ⟨c1, hb1, hx1⟩ := hr1.rb
        obtain ⟨c, cl, hcl⟩ : ∃ c cl, h1.M s 2 = c :: cl := by
          cases hh : h1.M s 2 with
          | nil => exact absurd hh hne
          | cons c cl => exact ⟨c, cl, rfl⟩
        have hcm : c ∈ h1.M s 2 := by rw [hcl]; simp
        obtain ⟨i, hi⟩ := hr1.ok.of s 2 c hs (by omega) (by omega) hcm
        have esc : scM (h1.M s) = (c, mv (h1.M s) c 1) := by unfold scM; rw [hcl]
        have ok2 : HOk n { h1 with M := upd h1.M s (mv (h1.M s) c 1) } := hr1.ok.move hs (j := 2) (by omega) (by omega) hcm (by omega) (by omega)
        have e1s : scan1 h1 s = (h1.X (s, c)).2.foldl shadeM { h1 with M := upd h1.M s (mv (h1.M s) c 1) } := by
          unfold scan1; rw [esc]
        obtain ⟨-, -, -, -, -, -, -, -, hxl⟩ := hr1.ok.place hi
        have hxw := (hr1.ok.x i _ hi).2.2
        obtain ⟨w0, w1⟩ := wds_bd hs
        have hwd : IntKind.i64.wrap (d + (wds s : Nat)) = d + (wds s : Nat) := wrap64 (by omega) (by omega)
        obtain ⟨L, hL5, hdr⟩ := hb1.ld5
        simp -implicitDefEqProofs only [g0, g1, g5, hL5, Bool.not_false, eqA, eqD, go_sem]
        refine WP_mono (Q := fun ex fr H2 => ex = .exit 2 ∧ fr.get 0 = some (.ptr (some (R.b, 0))) ∧ fr.get 1 = some (.int .i64 li) ∧ fr.get 5 = some (.int .i64 (d + (wds s : Nat))) ∧ RR R n H2 (scan1 h1 s) ∧ Evo R.d H H2) ?_ (WP_loop (fun m fr H2 => ∃ k : Nat, m = 5 - k ∧ k ≤ s ∧ fr.get 0 = some (.ptr (some (R.b, 0))) ∧ fr.get 1 = some (.int .i64 li) ∧ fr.get 5 = some (.int .i64 d) ∧ fr.get 25 = some (.agg L) ∧ fr.get 26 = some (.int .i64 k) ∧ H2 = H') 5 ?_ ?_)
        · rintro ex fr H2 ⟨rfl, g0, g1, g5, hr2, ev2⟩
          simp -implicitDefEqProofs only [g0, g1, g5, eqA, eqD, go_sem]
          exact ⟨262144 - (j + 1), by omega, j + 1, d + (wds s : Nat), scan1 h1 s, rfl, by omega, by omega, by omega, by rw [← hsc, show 262145 - (j + 1) = 262144 - j by omega], rfl, hr2, ev2⟩
        · refine ⟨0, rfl, by omega, ?_⟩
          simp -implicitDefEqProofs only [g0, g1, g5, eqA, eqD, go_sem]
        · rintro m fr H2 ⟨k, hm', hk, g0, g1, g5, g25, g26, rfl⟩
          have k0 : (0 : Int) ≤ k := by omega
          have hlt' : (k : Int) < 5 := by omega
          have hw := wrapS (i := k) (n := 5) (by omega) (by omega)
          have hdk := hdr k (by omega)
          obtain ⟨a, sa, cla, lk, -⟩ := (hb1.mil k (by omega)).ldK (k := 2) (by omega)
          by_cases hks : k < s
          · have he := hbel k hks
            have e0 : (((h1.M k 2).length : Nat) : Int) = 0 := by rw [he]; rfl
            simp -implicitDefEqProofs only [g0, g1, g5, g25, g26, hlt', k0, hdk, lk, e0, hw, Int.lt_irrefl, Bool.false_eq_true, eqA, eqD, go_sem]
            exact ⟨5 - (k + 1), by omega, k + 1, rfl, by omega, rfl⟩
          · obtain rfl : k = s := by omega
            have e0 : (0 : Int) < (((h1.M k 2).length : Nat) : Int) := by
              have := List.length_pos_iff.2 hne
              omega
            simp -implicitDefEqProofs only [g0, g1, g5, g25, g26, hlt', k0, hdk, lk, e0, eqA, eqD, go_sem]
            refine CW.mono (c_rScan (hb1.mil k hs) (hr1.ok.mill k hs) (hr1.ok.max k hs) (hb1.dm hs) hb1.lo_ hb1.new) ?_
            rintro v H3 ⟨rfl, m3, ev3⟩
            rw [esc] at m3 ⊢
            obtain ⟨hr3, ev3'⟩ := hr1.millS hs ok2 m3 ev3
            obtain ⟨H4, q1, q2, q3, q4⟩ := store_new H3 [.int .i64 0, .int .i64 0] [.int .i64 k, .int .i64 c] rfl
            have hr4 := hr3.sm q3
            have ev4 : Evo R.d H H4 := (ev1.then ev3' fun _ _ h => h).then (Evo.of_sm (D := R.d) q3) fun _ _ h => h
            have l4 := q4.load (n := 2) rfl
            obtain ⟨c4, hb4, hx4⟩ := hr4.rb
            obtain ⟨u, hc4, lw⟩ := hx4 i _ hi
            have lP := hb4.ldP
            have lk4 : lookA (.parts [(0, 1, .sc .int), (1, 1, .sc .int)]) (.agg [.int .i64 0, .slice none 1 0 true]) false H4 R.mp (.agg [.int .i64 k, .int .i64 c]) = some (.agg [.int .i64 (h1.X (k, c)).1, u], H4) := hb4.map.look_yes keyed_two hc4
            have lwr := lw.rowX (by show (h1.X (k, c)).2.length ≤ _; omega) (fun w hw => by have := hxw w hw; exact ⟨by omega, this.2⟩)
            change RowX R H4 u (h1.X (k, c)).2 at lwr
            obtain ⟨a4, sa4, cla4, rfl⟩ := lw.shape
            change RowX R H4 (.slice a4 sa4 (h1.X (k, c)).2.length cla4) (h1.X (k, c)).2 at lwr
            change lookA _ _ false H4 R.mp _ = some (.agg [_, .slice a4 sa4 (h1.X (k, c)).2.length cla4], H4) at lk4
            generalize hx : h1.X (k, c) = x at *
            generalize hh2 : ({ h1 with M := upd h1.M k (mv (h1.M k) c 1) } : HM) = h2 at *
            simp -implicitDefEqProofs only [g0, g1, g5, g25, g26, q1, l4, lP, lk4, eqA, eqD, go_sem]
            refine WP_mono (Q := fun ex fr H6 => ex = .exit 4 ∧ fr.get 0 = some (.ptr (some (R.b, 0))) ∧ fr.get 1 = some (.int .i64 li) ∧ fr.get 5 = some (.int .i64 d) ∧ fr.get 6 = some (.int .i64 k) ∧ RR R n H6 (x.2.foldl shadeM h2) ∧ Evo R.d H4 H6) ?_ (WP_loop (fun m fr H6 => ∃ t : Nat, m = x.2.length - t ∧ t ≤ x.2.length ∧ fr.get 0 = some (.ptr (some (R.b, 0))) ∧ fr.get 1 = some (.int .i64 li) ∧ fr.get 5 = some (.int .i64 d) ∧ fr.get 6 = some (.int .i64 k) ∧ fr.get 47 = some (.slice a4 sa4 x.2.length cla4) ∧ fr.get 48 = some (.int .i64 x.2.length) ∧ fr.get 49 = some (.int .i64 t) ∧ RR R n H6 ((x.2.take t).foldl shadeM h2) ∧ Evo R.d H4 H6) x.2.length ?_ ?_)
            rotate_left
            · refine ⟨0, rfl, by omega, ?_⟩
              simp -implicitDefEqProofs only [g0, g1, g5, eqA, eqD, go_sem]
              exact ⟨hr4, Evo.refl _ _⟩
            · rintro m fr H6 ⟨t, hm', ht, g0, g1, g5, g6, g47, g48, g49, hr6, ev6⟩
              have t0 : (0 : Int) ≤ t := by omega
              by_cases hlt : t < x.2.length
              · have hlt' : (t : Int) < (x.2.length : Int) := by omega
                have hw := wrapS hlt (by omega)
                have hu := hxw _ (List.getElem_mem hlt)
                obtain ⟨wN, hwN'⟩ := Int.eq_ofNat_of_zero_le (by omega : 0 ≤ x.2[t])
                obtain ⟨y, o, rfl, ld⟩ := (lwr.keep ev6).at hlt
                rw [hwN'] at ld
                have hu2 : wN < 4294967296 := by omega
                simp -implicitDefEqProofs only [g0, g1, g5, g6, g47, g48, g49, hlt', t0, ld, eqA, eqD, go_sem]
                refine CW.mono (c_rShadeH hr6 hu2) ?_
                rintro v H7 ⟨hr7, ev7⟩
                have e : (x.2.take (t + 1)).foldl shadeM h2 = shadeM ((x.2.take t).foldl shadeM h2) wN := by
                  rw [List.take_add_one, List.getElem?_eq_getElem hlt, hwN', Option.toList_some, List.foldl_append]; rfl
                simp -implicitDefEqProofs only [g0, g1, g5, g6, g47, g48, g49, hw, eqA, eqD, go_sem]
                exact ⟨x.2.length - (t + 1), by omega, t + 1, rfl, by omega, rfl, by rw [e]; exact hr7, ev6.then ev7 fun _ _ h => h⟩
              · obtain rfl : t = x.2.length := by omega
                rw [List.take_length] at hr6
                simp -implicitDefEqProofs only [g0, g1, g5, g6, g47, g48, g49, Int.lt_irrefl, Bool.false_eq_true, eqA, eqD, go_sem]
                exact ⟨hr6, ev6⟩
            · rintro ex fr H6 ⟨rfl, g0, g1, g5, g6, hr6, ev6⟩
              simp -implicitDefEqProofs only [g0, g1, g5, g6, eqA, eqD, go_sem]
              refine CW.mono (c_rfitWords (k := (k : Int)) (by omega)) ?_
              rw [fitP_wds hs]
              rintro v H7 ⟨rfl, rfl⟩
              simp -implicitDefEqProofs only [g0, g1, g5, g6, hwd, eqA, eqD, go_sem]
              rw [e1s]
              exact ⟨hr6, ev4.then ev6 fun _ _ h => h⟩
    · have hdl' : ¬ d < li := by omega
      have hsc' : (d, h1) = scanM h w := by
        cases hg : greyM h1 with
        | none => rw [hg] at hsc; exact hsc
        | some s => rw [hg] at hsc; dsimp only at hsc; rw [if_neg hdl] at hsc; exact hsc
      simp -implicitDefEqProofs only [g0, g1, g5, hdl', Bool.false_eq_true, eqA, eqD, go_sem]
      rw [← hsc']
      exact ⟨rfl, hr1, ev1⟩
end
set_option maxHeartbeats 4000000
section
variable {R : RA} {n : Nat → Nat} {H H' : AHeap} {h : HM} {g g' : TG} {M : Nat → Ml} {c : Pl → Option (Int × AV)}
theorem RB.table (hb : RB R H g M c) {xt : Nat → AV} (t : RefR H' R.b xt g') (h1 : ∀ s, s < 5 → xt (3072 + s) = .ptr (some (R.ml s, 0))) (h2 : xt 3077 = .map (some R.mp)) (ev : Evo (D1 R.b) H H') : RB R H' g' M c :=
  hb.gen (k := 1) ev.1 (by omega) (fun x hx hk => ev.2 x hx fun e => hk (by rw [e, hb.tb_])) (.inr ⟨xt, t, h1, h2⟩) (fun s _ => .inl ⟨by omega, rfl⟩) (.inl ⟨by omega, rfl⟩)
theorem RB.db (hb : RB R H g M c) : R.T R.b ≠ 0 := by rw [hb.tb_]; omega
theorem RB.cgM (hb : RB R H g M c) {M' : Nat → Ml} (e : ∀ s, s < 5 → M s = M' s) : RB R H g M' c :=
  ⟨hb.tbl, fun s hs => by rw [← e s hs]; exact hb.mil s hs, hb.map, hb.tb_, hb.tm, hb.tl, hb.new, hb.low⟩
theorem c_rFlipH (hr : RR R n H h) : CW MN 24 [.ptr (some (R.b, 0))] H fun v H' => v = .int .i64 (flipM h).1 ∧ RR R n H' (flipM h).2 ∧ Evo R.d H H' := by
  refine CW_of (fn := af24) rfl ?_
  dsimp only [af24, qm, q, qG, qn, qi, qb, qB, qk, qc, qo, qg, qv, qr]
  have ok' := hr.ok.flip
  unfold flipM at ok' ⊢
  obtain ⟨G, hG⟩ : ∃ G, G = (greyM h).isNone := ⟨_, rfl⟩
  simp -implicitDefEqProofs only [eqA, eqD, go_sem]
  refine CW.mono (c_rDone hr) ?_
  rw [← hG]
  rintro v H' ⟨rfl, rfl⟩
  cases hg : greyM h with
  | some s =>
    rw [hg] at hG
    obtain rfl : G = false := hG
    simp -implicitDefEqProofs only [Bool.not_false, eqA, eqD, go_sem]
    exact ⟨hr, Evo.refl _ _⟩
  | none =>
    rw [hg] at ok' hG
    obtain rfl : G = true := hG
    dsimp only at ok'
    obtain ⟨c, hb, hx⟩ := hr.rb
    have hg2 := greyM_none hg
    obtain ⟨L, hL, hd⟩ := hb.ld5
    simp -implicitDefEqProofs only [Bool.not_true, hL, Bool.false_eq_true, eqA, eqD, go_sem]
    refine WP_mono (Q := fun ex fr H1 => ex = .exit 0 ∧ fr.get 3 = some (.int .i64 (cntK h 5 : Nat)) ∧ RB R H1 (flipK h 5).g (flipK h 5).M c ∧ Evo R.d H' H1) ?_ (WP_loop (fun m fr H1 => ∃ k : Nat, m = 5 - k ∧ k ≤ 5 ∧ fr.get 0 = some (.ptr (some (R.b, 0))) ∧ fr.get 3 = some (.int .i64 (cntK h k : Nat)) ∧ fr.get 16 = some (.agg L) ∧ fr.get 17 = some (.int .i64 k) ∧ RB R H1 (flipK h k).g (flipK h k).M c ∧ Evo R.d H' H1) 5 ?_ ?_)
    · rintro ex fr H1 ⟨rfl, g3, hb1, ev1⟩
      simp -implicitDefEqProofs only [g3, eqA, eqD, go_sem]
      refine ⟨⟨ok', c, hb1, fun i p hp => ?_⟩, ev1⟩
      obtain ⟨v, h1, h2⟩ := hx i p (flipK_g.1 hp).1
      exact ⟨v, h1, h2.keep ev1.1 fun x hT hx => ev1.2 x hx fun hd => hd hT⟩
    · refine ⟨0, rfl, by omega, ?_⟩
      simp -implicitDefEqProofs only [eqA, eqD, go_sem]
      refine ⟨rfl, ?_, Evo.refl _ _⟩
      rw [flipK_0 hr.ok]
      exact hb.cgM fun s _ => by show h.M s = if s < 0 then flM (h.M s) else h.M s; rw [if_neg (by omega)]
    · rintro m fr H1 ⟨k, hm, hk, g0, g3, g16, g17, hb1, ev1⟩
      have k0 : (0 : Int) ≤ k := by omega
      by_cases hlt : k < 5
      · have hlt' : (k : Int) < 5 := by omega
        have hw := wrapS hlt (by omega)
        have hdk := hd k hlt
        have mk : RMill R.T R.lo H1 (R.ml k) (h.M k) := by
          have := hb1.mil k hlt
          have e : (flipK h k).M k = h.M k := by show (if k < k then flM (h.M k) else h.M k) = _; rw [if_neg (by omega)]
          rwa [e] at this
        have dmk : R.T (R.ml k) ≠ 0 := by rw [hb1.tl k hlt]; omega
        simp -implicitDefEqProofs only [g0, g3, g16, g17, hlt', k0, hdk, Bool.false_eq_true, eqA, eqD, go_sem]
        refine CW.mono (c_rFlip mk (hr.ok.mill k hlt) (hr.ok.max k hlt) (hg2 k hlt) dmk hb1.lo_ hb1.new) ?_
        rintro v H2 ⟨row, m2, ev2⟩
        have hb2 : RB R H2 (flG h k 0) (flipK h (k + 1)).M c := by
          have := hb1.mill hlt m2 ev2
          rw [flipK_M] at this
          rw [flG_0]; exact this
        have evd2 : Evo R.d H' H2 := ev1.then ev2 fun x _ hx => by rw [show x = R.ml k from hx]; exact dmk
        obtain ⟨a, s0, cl, rfl, -⟩ := row.shape
        have l3 : (h.M k 3).length ≤ n k := cells_le ((hr.ok.mill k hlt).nd 3 (by omega)) fun x hx => (hr.ok.mill k hlt).inn 3 x (by omega) hx
        have lmax := hr.ok.max k hlt
        have lc := cntK_le hr.ok k (by omega)
        simp -implicitDefEqProofs only [g0, g3, g16, g17, eqA, eqD, go_sem]
        refine WP_mono (Q := fun ex fr H3 => ex = .exit 2 ∧ fr.get 0 = some (.ptr (some (R.b, 0))) ∧ fr.get 3 = some (.int .i64 (cntK h (k + 1) : Nat)) ∧ fr.get 16 = some (.agg L) ∧ fr.get 17 = some (.int .i64 k) ∧ RB R H3 (flipK h (k + 1)).g (flipK h (k + 1)).M c ∧ Evo R.d H' H3) ?_ (WP_loop (fun m fr H3 => ∃ j : Nat, m = (h.M k 3).length - j ∧ j ≤ (h.M k 3).length ∧ fr.get 0 = some (.ptr (some (R.b, 0))) ∧ fr.get 3 = some (.int .i64 (cntK h k + j : Nat)) ∧ fr.get 4 = some (.int .i64 k) ∧ fr.get 16 = some (.agg L) ∧ fr.get 17 = some (.int .i64 k) ∧ fr.get 22 = some (.slice a s0 (h.M k 3).length cl) ∧ fr.get 23 = some (.int .i64 (h.M k 3).length) ∧ fr.get 24 = some (.int .i64 j) ∧ RB R H3 (flG h k j) (flipK h (k + 1)).M c ∧ Evo R.d H' H3 ∧ Evo R.d H2 H3) (h.M k 3).length ?_ ?_)
        rotate_left
        · refine ⟨0, rfl, by omega, ?_⟩
          simp -implicitDefEqProofs only [g0, g3, g16, g17, eqA, eqD, go_sem]
          exact ⟨hb2, evd2, Evo.refl _ _⟩
        · rintro m fr H3 ⟨j, hm', hj, g0, g3, g4, g16, g17, g22, g23, g24, hb3, ev3, ev23⟩
          have j0 : (0 : Int) ≤ j := by omega
          by_cases hjl : j < (h.M k 3).length
          · have hjl' : (j : Int) < ((h.M k 3).length : Int) := by omega
            have hw2 := wrapS hjl (by omega)
            have hw3 : IntKind.i64.wrap (((cntK h k + j : Nat) : Int) + 1) = ((cntK h k + (j + 1) : Nat) : Int) := by rw [wrap64 (by omega) (by omega)]; omega
            have row3 := row.keep (H' := H3) ev23.1 fun x _ hT hl => ev23.2 x hl fun hd => hd hT
            obtain ⟨x, o, rfl, rfl, ld⟩ := row3.at hjl
            have hc : (h.M k 3)[j]? = some (h.M k 3)[j] := List.getElem?_eq_getElem hjl
            generalize (h.M k 3)[j] = cc at *
            obtain ⟨i, hi⟩ := hr.ok.of k 3 cc hlt (by omega) (by omega) (List.mem_of_getElem? hc)
            obtain ⟨f1, f2⟩ := flG_step hr.ok hlt hc hi
            obtain ⟨xt, t3, t31, t32⟩ := hb3.tbl
            simp -implicitDefEqProofs only [g0, g3, g4, g16, g17, g22, g23, g24, hjl', j0, ld, Nat.zero_add, eqA, eqD, go_sem]
            refine CW.mono (c_OfR t3 k cc) ?_
            rintro v H4 ⟨rfl, s4⟩
            rw [ofG_at t3.inj f1]
            have hb4 := hb3.sm s4
            have t4 := t3.keep s4.1 (s4.gt t3.blk.1)
            simp -implicitDefEqProofs only [g0, g3, g4, g16, g17, g22, g23, g24, Option.getD_some, Option.isSome_some, eqA, eqD, go_sem]
            refine CW.mono (c_GiveR t4 i) ?_
            rintro v H5 ⟨rfl, t5, ev5⟩
            rw [f2] at t5
            rw [f1]
            have hb5 := hb4.table t5 t31 t32 ev5
            have ev45 : Evo R.d H3 H5 := (Evo.of_sm (D := R.d) s4).then ev5 fun x _ hx => by rw [show x = R.b from hx]; exact hb4.db
            simp -implicitDefEqProofs only [g0, g3, g4, g16, g17, g22, g23, g24, hw2, hw3, Option.isSome_some, eqA, eqD, go_sem]
            exact ⟨(h.M k 3).length - (j + 1), by omega, j + 1, rfl, by omega, rfl, rfl, hb5, ev3.then ev45 fun _ _ h => h, ev23.then ev45 fun _ _ h => h⟩
          · obtain rfl : j = (h.M k 3).length := by omega
            rw [flG_end] at hb3
            simp -implicitDefEqProofs only [g0, g3, g4, g16, g17, g22, g23, g24, Int.lt_irrefl, Bool.false_eq_true, eqA, eqD, go_sem]
            exact ⟨rfl, hb3, ev3⟩
        · rintro ex fr H3 ⟨rfl, g0, g3, g16, g17, hb3, ev3⟩
          simp -implicitDefEqProofs only [g0, g3, g16, g17, hw, eqA, eqD, go_sem]
          exact ⟨5 - (k + 1), by omega, k + 1, rfl, by omega, rfl, rfl, hb3, ev3⟩
      · obtain rfl : k = 5 := by omega
        have e5 : ¬ ((5 : Nat) : Int) < 5 := by omega
        simp -implicitDefEqProofs only [g0, g3, g16, g17, e5, Int.lt_irrefl, Bool.false_eq_true, eqA, eqD, go_sem]
        exact ⟨hb1, ev1⟩
end
set_option maxHeartbeats 4000000
section
variable {R : RA} {n : Nat → Nat} {H H' : AHeap} {h : HM}
theorem c_rAllocH (hr : RR R n H h) {c f : Int} (hf : f ≤ 9223372036854775807) : CW MN 12 [.ptr (some (R.b, 0)), .int .i64 c, .int .i64 f] H fun v H' => v = .int .i64 (allocM h c f).1 ∧ RR R n H' (allocM h c f).2 ∧ Evo R.d H H' := by
  refine CW_of (fn := af12) rfl ?_
  dsimp only [af12, qm, q, qG, qn, qi, qb, qB, qk, qc, qo, qg, qv, qr]
  have okA := hr.ok.alloc c f
  simp -implicitDefEqProofs only [eqA, eqD, go_sem]
  refine CW.mono (c_rFit hf) ?_
  rintro v H' ⟨rfl, rfl⟩
  rw [ofP_szP]
  by_cases z1 : c < 0
  · have e : allocM h c f = (-1, h) := by unfold allocM; rw [if_pos (.inr (.inl z1))]
    rw [e]
    simp -implicitDefEqProofs only [z1, eqA, eqD, go_sem]
    exact ⟨hr, Evo.refl _ _⟩
  by_cases z2 : 4095 < c
  · have e : allocM h c f = (-1, h) := by unfold allocM; rw [if_pos (.inr (.inr z2))]
    rw [e]
    simp -implicitDefEqProofs only [z1, z2, Bool.false_eq_true, eqA, eqD, go_sem]
    exact ⟨hr, Evo.refl _ _⟩
  by_cases z0 : szP f < 0
  · have e : allocM h c f = (-1, h) := by unfold allocM; rw [if_pos (.inl z0)]
    rw [e]
    simp -implicitDefEqProofs only [z0, z1, z2, Bool.false_eq_true, eqA, eqD, go_sem]
    exact ⟨hr, Evo.refl _ _⟩
  have hz : 0 ≤ szP f := by omega
  obtain ⟨f0, f1, hs5, hfw⟩ := szP_nn hz
  obtain ⟨s, hS⟩ := Int.eq_ofNat_of_zero_le hz
  rw [hS] at hs5
  have hs : s < 5 := by omega
  obtain ⟨c1, hb1, hx1⟩ := hr.rb
  have s0 : (0 : Int) ≤ s := by omega
  have s5 : (s : Int) < 5 := by omega
  have hsz : ¬ (s : Int) < 0 := by omega
  have lm := hb1.ldM hs
  obtain ⟨a, sa, cla, lk, -⟩ := (hb1.mil s hs).ldK (k := 0) (by omega)
  cases hM : h.M s 0 with
  | nil =>
    have e : allocM h c f = (-1, h) := by
      unfold allocM
      rw [if_neg (by omega), hS, Int.toNat_natCast, hM]
    have e0 : ((((h.M s 0).length : Nat) : Int) == 0) = true := by rw [hM]; rfl
    rw [e]
    simp -implicitDefEqProofs only [hS, hsz, z1, z2, s0, s5, lm, lk, e0, Bool.false_eq_true, eqA, eqD, go_sem]
    exact ⟨hr, Evo.refl _ _⟩
  | cons i l =>
    have e0 : ((((h.M s 0).length : Nat) : Int) == 0) = false := by rw [hM]; simp; omega
    simp -implicitDefEqProofs only [hS, hsz, z1, z2, s0, s5, lm, lk, e0, Bool.false_eq_true, eqA, eqD, go_sem]
    refine CW.mono (c_rAlloc (hb1.mil s hs) (hr.ok.mill s hs) (hr.ok.max s hs) (hb1.dm hs) hb1.lo_ hb1.new) ?_
    rintro v H2 ⟨rfl, m2, ev2⟩
    have ea : alM (h.M s) = (i, mv (h.M s) i 1) := by unfold alM; rw [hM]
    rw [ea] at m2 ⊢
    have him : i ∈ h.M s 0 := by rw [hM]; simp
    obtain ⟨id, hid, e⟩ := hr.ok.alloc_at (c := c) (f := f) hz (by omega) (by omega) (i := i) (l := l) (by rw [hS, Int.toNat_natCast]; exact hM)
    have hno : ∀ j, h.g j ≠ some ((s : Int), i) := fun j hj => by
      obtain ⟨-, -, k, h1, h2, h3⟩ := hr.ok.at_ _ _ hj
      have := (hr.ok.mill s hs).dis k 0 i h2 (by omega) (by simpa using h3) him
      omega
    rw [hS, Int.toNat_natCast] at e
    rw [e] at okA ⊢
    have hb2 := hb1.mill hs m2 ev2
    have dm := hb1.dm hs
    have evd2 : Evo R.d H' H2 := (Evo.refl R.d H').then ev2 fun x _ hx => by rw [show x = R.ml s from hx]; exact dm
    have lo2 := hb2.lo_
    obtain ⟨H3, q1, q2, q3, q4⟩ := store_new H2 [.int .i64 0, .int .i64 0] [.int .i64 s, .int .i64 i] rfl
    have hb3 := hb2.sm q3
    obtain ⟨H4, p1, p2, p3, p4⟩ := store_new H3 [.int .i64 0, .slice none 1 0 true] [.int .i64 c, .slice none 1 0 true] rfl
    have bb := Blk.new H3 [.int .i64 0, .slice none 1 0 true] (n := 2) rfl
    obtain ⟨H4', p1', p2', p3'⟩ := bb.stores (i := 0) (vs := [.int .i64 c, .slice none 1 0 true]) (by simp)
    obtain ⟨f4, hf4⟩ : ∃ f4, f4 = updL (updL (fun _ => .nilFunc) 0 [.int .i64 0, .slice none 1 0 true]) 0 [.int .i64 c, .slice none 1 0 true] := ⟨_, rfl⟩
    rw [← hf4] at p2'
    have f40 : f4 0 = .int .i64 c := by rw [hf4]; simp [updL]
    have f41 : f4 1 = .slice none 1 0 true := by rw [hf4]; simp [updL]
    obtain rfl : H4 = H4' := by rw [p1] at p1'; exact Option.some.inj p1'
    have q44 := q4.keep p3.1 (p3.gt q4.1)
    have sm4 : Sm H2 H4 := q3.trans p3
    obtain ⟨fN, rfl⟩ := Int.eq_ofNat_of_zero_le f0
    simp -implicitDefEqProofs only [q1, p1, eqA, eqD, go_sem]
    refine WP_mono (Q := fun ex fr H5 => ex = .exit 0 ∧ fr.get 0 = some (.ptr (some (R.b, 0))) ∧ fr.get 8 = some (.ptr (some (H2.next, 0))) ∧ fr.get 9 = some (.ptr (some (H3.next, 0))) ∧ ∃ f' : Nat → AV, Blk H5 H3.next 2 f' ∧ f' 0 = .int .i64 c ∧ Gw H5 1 (f' 1) fN (List.replicate fN (.int .u32 2)) (fun z => H3.next < z ∧ z < H5.next) ∧ Rd H5 H2.next 0 [.int .i64 s, .int .i64 i] ∧ Sm H2 H5) ?_ (WP_loop (fun m fr H5 => ∃ (j : Nat) (f' : Nat → AV), m = fN - j ∧ j ≤ fN ∧ fr.get 0 = some (.ptr (some (R.b, 0))) ∧ fr.get 2 = some (.int .i64 fN) ∧ fr.get 8 = some (.ptr (some (H2.next, 0))) ∧ fr.get 9 = some (.ptr (some (H3.next, 0))) ∧ fr.get 10 = some (.int .i64 j) ∧ Blk H5 H3.next 2 f' ∧ f' 0 = .int .i64 c ∧ Gw H5 1 (f' 1) j (List.replicate j (.int .u32 2)) (fun z => H3.next < z ∧ z < H5.next) ∧ Rd H5 H2.next 0 [.int .i64 s, .int .i64 i] ∧ Sm H2 H5) fN ?_ ?_)
    rotate_left
    · refine ⟨0, f4, rfl, by omega, ?_⟩
      simp -implicitDefEqProofs only [eqA, eqD, go_sem]
      exact ⟨p2', f40, ⟨rfl, .inl ⟨1, f41, rfl⟩⟩, q44, sm4⟩
    · rintro m fr H5 ⟨j, f', hm', hj, g0, g2, g8, g9, g10, bf, ef, gw, rd, sm⟩
      have j0 : (0 : Int) ≤ j := by omega
      by_cases hlt : j < fN
      · have hlt' : (j : Int) < (fN : Int) := by omega
        have hw := wrapS hlt (by omega)
        have l1 := bf.load (i := 1) (by omega)
        obtain ⟨H6, a1, a2, a3, a4⟩ := gw.push (bytes := 4) (ys := [.int .u32 2]) (fun z hz => hz.2) rfl (by omega) (by omega)
        have nub : ub (f' 1) ≠ some H3.next := fun e => by have := gw.ubP e; omega
        have k6 : H6.get H3.next = H5.get H3.next := a3.keep bf.1 nub
        have bf6 := bf.keep' (H' := H6) (by omega) k6
        obtain ⟨H7, b1, b2, b3, b4⟩ := bf6.store (i := 1) (by omega) (.slice (some (H5.next + 1, 0)) 1 (j + 1) false)
        have rd6 := rd.keep (H' := H6) (by omega) (a3.keep rd.1 fun e => by have := gw.ubP e; omega)
        have n32 : H3.next = H2.next + 1 := q2
        have rd7 := rd6.keep (H' := H7) (by omega) (b4 _ (by omega))
        have gw7 : Gw H7 1 (.slice (some (H5.next + 1, 0)) 1 (j + 1) false) (j + 1) (List.replicate (j + 1) (.int .u32 2)) (fun z => H3.next < z ∧ z < H7.next) := by
          rw [List.replicate_succ']
          refine (a4.mono fun z hz => ?_).keep (by omega) fun y hy => b4 y ?_
          · have := bf.1
            rcases hz with hz | rfl
            · exact ⟨hz.1, by omega⟩
            · exact ⟨by omega, by omega⟩
          · have hy' : H5.next + 1 = y := by simpa [ub] using hy
            have := bf.1
            omega
        have sm7 : Sm H2 H7 := Sm.of (by have := sm.1; omega) fun x hx => by
          have := sm.1
          rw [b4 x (by omega), a3.keep (by omega) (fun e => by have := gw.ubP e; omega), sm.gt hx]
        simp -implicitDefEqProofs only [g0, g2, g8, g9, g10, hlt', l1, a1, b1, hw, eqA, eqD, go_sem]
        exact ⟨fN - (j + 1), by omega, j + 1, _, rfl, by omega, rfl, b2, by rw [upd_ne (by omega)]; exact ef, by rw [upd_same]; exact gw7, rd7, sm7⟩
      · obtain rfl : j = fN := by omega
        simp -implicitDefEqProofs only [g0, g2, g8, g9, g10, Int.lt_irrefl, Bool.false_eq_true, eqA, eqD, go_sem]
        exact ⟨f', bf, ef, gw, rd, sm⟩
    · rintro ex fr H5 ⟨rfl, g0, g8, g9, f', bf, ef, gw, rd, sm⟩
      have hb5 := hb2.sm sm
      have lP := hb5.ldP
      have l8 := rd.load (n := 2) rfl
      have l9 := bf.load2 (i := 0) (by omega)
      rw [ef, Nat.zero_add] at l9
      obtain ⟨H6, m1, m2, m3⟩ := hb5.map.upd keyed_two ((s : Int), i) (c, f' 1)
      simp only [pl, cellV] at m1
      have dmp : R.T R.mp = 2 := hb5.tm
      have hb6 : RB R H6 h.g (upd h.M s (mv (h.M s) i 1)) (fset c1 ((s : Int), i) (some (c, f' 1))) := hb5.gen (k := 2) (by rw [m3.1]; exact Nat.le_refl _) (by omega) (fun x hx hk => m3.2 x fun e => hk (by rw [e, dmp])) (.inl ⟨by omega, rfl⟩) (fun s _ => .inl ⟨by omega, rfl⟩) (.inr m2)
      obtain ⟨xt, t6, t61, t62⟩ := hb6.tbl
      have T2 : R.T H2.next = 0 := hb2.new _ (Nat.le_refl _)
      have rd6 := rd.keep (H' := H6) (by rw [m3.1]; exact Nat.le_refl _) (m3.2 _ fun e => by rw [e, dmp] at T2; omega)
      have l86 := rd6.load (n := 2) rfl
      have ev6 : Evo R.d H' H6 := (evd2.then (Evo.of_sm (D := R.d) sm) fun _ _ h => h).then (Evo.of_ch (D := R.d) m3 (by show R.T _ ≠ 0; rw [dmp]; omega)) fun _ _ h => h
      have l96 : loadA H6 H3.next 0 2 = some [.int .i64 c, f' 1] := by
        rw [m3.load (by intro e; have := hb2.map.lt; have := q2; omega)]; exact l9
      have er : eqAV (f' 1) (f' 1) = true := gw.sl.refl
      simp -implicitDefEqProofs only [g0, g8, g9, lP, l8, l9, l86, l96, m1, er, eqA, eqD, go_sem]
      refine CW.mono (c_TakeR t6 s i) ?_
      rintro v H7 ⟨rfl, t7, ev7⟩
      rw [tk_at hno hid] at t7 ⊢
      have hb7 := hb6.table t7 t61 t62 ev7
      have evd7 : Evo R.d H6 H7 := (Evo.refl R.d H6).then ev7 fun x _ hx => by rw [show x = R.b from hx]; exact hb6.db
      have ev27 : Evo R.d H' H7 := ev6.then evd7 fun _ _ h => h
      have T3 : ∀ z, H2.next ≤ z → R.T z = 0 := fun z hz => hb2.new z hz
      have rd7 := rd6.keep (H' := H7) evd7.1 (evd7.2 _ rd6.1 fun hd => hd T2)
      have l87 := rd7.load (n := 2) rfl
      simp -implicitDefEqProofs only [g8, l86, eqA, eqD, go_sem]
      refine ⟨⟨okA, _, hb7, fun j p hp => ?_⟩, ev27⟩
      have hp' : fset h.g id (some ((s : Int), i)) j = some p := hp
      by_cases ep : p = ((s : Int), i)
      · subst ep
        have eX : (⟨fset h.g id (some ((s : Int), i)), upd h.M s (mv (h.M s) i 1), fset h.X ((s : Int), i) (c, List.replicate fN 2)⟩ : HM).X ((s : Int), i) = (c, List.replicate fN 2) := by
          show fset _ _ _ _ = _
          rw [fset_same]
        rw [eX, fset_same]
        refine ⟨_, rfl, ?_⟩
        obtain ⟨-, ⟨sz, e1, e2⟩ | ⟨x, e1, hx, arr⟩⟩ := gw
        · subst e2
          exact .inl ⟨rfl, none, sz, true, e1, .inl rfl⟩
        · have hx1 := hx.1
          have n32 : H3.next = H2.next + 1 := q2
          refine .inr ⟨x, 0, false, by rw [e1]; simp, by omega, T3 x (by omega), ?_⟩
          rw [List.map_replicate]
          have r5 := arr.rd
          have r6 := r5.keep (H' := H6) (by rw [m3.1]; exact Nat.le_refl _) (m3.2 _ fun e => by have := T3 x (by omega); rw [e, dmp] at this; omega)
          exact r6.keep evd7.1 (evd7.2 _ r6.1 fun hd => hd (T3 x (by omega)))
      · have eX : (⟨fset h.g id (some ((s : Int), i)), upd h.M s (mv (h.M s) i 1), fset h.X ((s : Int), i) (c, List.replicate fN 2)⟩ : HM).X p = h.X p := fset_ne ep
        rw [eX, fset_ne ep]
        have hj : j ≠ id := fun e => by
          subst e
          rw [fset_same] at hp'
          exact ep (Option.some.inj hp').symm
        rw [fset_ne hj] at hp'
        obtain ⟨v, h1, h2⟩ := hx1 j p hp'
        exact ⟨v, h1, h2.keep ev27.1 fun x hT hx => ev27.2 x hx fun hd => hd hT⟩
end
set_option maxHeartbeats 4000000
section
variable {n : Nat → Nat} {H H' : AHeap}
def xt0 (mp : Nat) (i : Nat) : AV := if i = 3077 then .map (some mp) else .ptr none
theorem zs_at (mp : Nat) : (setAt zs0 3077 [.map (some mp)]).length = 3078 ∧ ∀ (i : Nat) v, (setAt zs0 3077 [.map (some mp)])[i]? = some v → rcx (xt0 mp) (fun _ => none) i = v := by
  have e1 : zs0.take 3077 = List.replicate 1024 (.bool false : AV) ++ List.replicate 2048 (.int (.i64) 0 : AV) ++ List.replicate 5 (.ptr none : AV) := by
    unfold zs0
    exact List.take_left' (by simp only [List.length_append, List.length_replicate])
  have e2 : zs0.drop (3077 + 1) = [] := List.drop_of_length_le (by unfold zs0; simp only [List.length_append, List.length_replicate]; omega)
  have e : setAt zs0 3077 [.map (some mp)] = List.replicate 1024 (.bool false : AV) ++ (List.replicate 2048 (.int (.i64) 0 : AV) ++ (List.replicate 5 (.ptr none : AV) ++ [.map (some mp)])) := by
    unfold setAt
    rw [e1, List.length_singleton, e2, List.append_nil, List.append_assoc, List.append_assoc]
  rw [e]
  refine ⟨by simp only [List.length_append, List.length_replicate, List.length_singleton], fun i v hv => ?_⟩
  by_cases h1 : i < 1024
  · rw [List.getElem?_append_left (by rw [List.length_replicate]; exact h1), List.getElem?_replicate, if_pos h1] at hv
    rw [rcx_lt (by omega), rc, if_pos h1]
    exact Option.some.inj hv
  rw [List.getElem?_append_right (by rw [List.length_replicate]; omega), List.length_replicate] at hv
  by_cases h2 : i < 3072
  · rw [List.getElem?_append_left (by rw [List.length_replicate]; omega), List.getElem?_replicate, if_pos (by omega)] at hv
    rw [rcx_lt h2, rc, if_neg h1]
    have hv' := Option.some.inj hv
    split <;> exact hv'
  rw [List.getElem?_append_right (by rw [List.length_replicate]; omega), List.length_replicate] at hv
  rw [rcx_ge h2]
  unfold xt0
  by_cases h3 : i < 3077
  · rw [List.getElem?_append_left (by rw [List.length_replicate]; omega), List.getElem?_replicate, if_pos (by omega)] at hv
    rw [if_neg (by omega)]
    exact Option.some.inj hv
  rw [List.getElem?_append_right (by rw [List.length_replicate]; omega), List.length_replicate] at hv
  have : i - 1024 - 2048 - 5 = 0 := by
    have := (List.getElem?_eq_some_iff.1 hv).1
    simpa using this
  rw [this] at hv
  rw [if_pos (by omega)]
  exact Option.some.inj hv
theorem LI.reT {T T' : Nat → Nat} {lo : Nat} {v : AV} {l : List Int} (h : LI T lo H v l) (e : ∀ x, x < H.next → T' x = T x) : LI T' lo H v l := by
  rcases h with h | ⟨x, o, cl, e1, h1, h2, h3⟩
  · exact .inl h
  · exact .inr ⟨x, o, cl, e1, h1, by rw [e x h3.1]; exact h2, h3⟩
theorem RMill.reT {T T' : Nat → Nat} {lo b : Nat} {m : Ml} (h : RMill T lo H b m) (e : ∀ x, x < H.next → T' x = T x) : RMill T' lo H b m := by
  obtain ⟨f, hf, hk⟩ := h.blk
  exact ⟨f, hf, fun k hk4 => (hk k hk4).reT e⟩
structure RN (R : RA) (n : Nat → Nat) (k : Nat) (H : AHeap) : Prop where
  tbl : ∃ xt, RefR H R.b xt (fun _ => none) ∧ (∀ s, s < k → xt (3072 + s) = .ptr (some (R.ml s, 0))) ∧ xt 3077 = .map (some R.mp)
  mil : ∀ s, s < k → RMill R.T R.lo H (R.ml s) (newMl (n s))
  map : MR pl cellV H R.mp (fun _ => none)
  tb_ : R.T R.b = 1
  tm : R.T R.mp = 2
  tl : ∀ s, s < k → R.T (R.ml s) = 10 + s
  new : ∀ x, H.next ≤ x → R.T x = 0
  low : ∀ x, R.T x ≠ 0 → R.lo ≤ x
  lo_ : R.lo ≤ H.next
theorem RN.step {R : RA} {k : Nat} (h : RN R n k H) (hk : k < 5) {H1 : AHeap} (s1 : Sm H H1) (hm : RMill (fun x => if x = H.next then 10 + k else R.T x) R.lo H1 H.next (newMl (n k))) (hn : H.next < H1.next) : ∃ H2, storeA H1 R.b (3072 + k) [.ptr (some (H.next, 0))] = some H2 ∧ RN { R with ml := upd R.ml k H.next, T := fun x => if x = H.next then 10 + k else R.T x } n (k + 1) H2 ∧ Ch R.b H1 H2 := by
  obtain ⟨xt, ht, h1, h2⟩ := h.tbl
  have hb : R.b < H.next := ht.blk.1
  have hmp : R.mp < H.next := h.map.lt
  have ht1 := ht.keep s1.1 (s1.gt hb)
  obtain ⟨H2, e1, e2, e3, e4⟩ := ht1.blk.store (i := 3072 + k) (by omega) (.ptr (some (H.next, 0)))
  have hT : ∀ x, x < H.next → (if x = H.next then 10 + k else R.T x) = R.T x := fun x hx => if_neg (by omega)
  have lt : ∀ s, s < k → R.ml s < H.next := fun s hs => (h.mil s hs).lt
  refine ⟨H2, e1, ⟨⟨upd xt (3072 + k) (.ptr (some (H.next, 0))), ⟨e2.congr fun i hi => ?_, ht1.inj, ht1.dom⟩, fun s hs => ?_, ?_⟩, fun s hs => ?_, ?_, ?_, ?_, fun s hs => ?_, fun x hx => ?_, fun x hx => ?_, ?_⟩, e3, e4⟩
  · by_cases e : i = 3072 + k
    · rw [e, upd_same, rcx_ge (by omega), upd_same]
    · rw [upd_ne e]
      by_cases hlt : i < 3072
      · rw [rcx_lt hlt, rcx_lt hlt]
      · rw [rcx_ge hlt, rcx_ge hlt, upd_ne e]
  · show upd xt (3072 + k) _ (3072 + s) = .ptr (some (upd R.ml k H.next s, 0))
    by_cases e : s = k
    · rw [e, upd_same, upd_same]
    · rw [upd_ne (by omega), upd_ne e, h1 s (by omega)]
  · show upd xt (3072 + k) _ 3077 = _
    rw [upd_ne (by omega)]; exact h2
  · show RMill _ R.lo H2 (upd R.ml k H.next s) (newMl (n s))
    have kp : ∀ {m : Ml} {b : Nat}, b ≠ R.b → RMill (fun x => if x = H.next then 10 + k else R.T x) R.lo H1 b m → RMill (fun x => if x = H.next then 10 + k else R.T x) R.lo H2 b m := fun hb' hm' => hm'.keep (by rw [e3]; exact Nat.le_refl _) (e4 _ hb') fun x _ hx _ => e4 x fun e => by
      subst e
      change (if R.b = H.next then 10 + k else R.T R.b) = 0 at hx
      rw [if_neg (by omega), h.tb_] at hx
      omega
    by_cases e : s = k
    · subst e; rw [upd_same]; exact kp (by omega) hm
    · rw [upd_ne e]
      have hs' : s < k := by omega
      refine kp (fun e => ?_) (((h.mil s hs').reT fun x hx => hT x hx).keep s1.1 (s1.gt (lt s hs')) fun x _ _ hx => s1.gt hx)
      have := h.tl s hs'
      rw [e, h.tb_] at this
      omega
  · exact (h.map.keep s1.1 (s1.gt hmp)).keep (by rw [e3]; exact Nat.le_refl _) (e4 _ fun e => by have := h.tm; rw [e, h.tb_] at this; omega)
  · show (if R.b = H.next then _ else _) = 1
    rw [hT _ hb]; exact h.tb_
  · show (if R.mp = H.next then _ else _) = 2
    rw [hT _ hmp]; exact h.tm
  · show (if upd R.ml k H.next s = H.next then 10 + k else R.T (upd R.ml k H.next s)) = 10 + s
    by_cases e : s = k
    · subst e; rw [upd_same, if_pos rfl]
    · rw [upd_ne e, hT _ (lt s (by omega))]; exact h.tl s (by omega)
  · show (if x = H.next then _ else _) = 0
    rw [if_neg (by omega)]; exact h.new x (by omega)
  · change (if x = H.next then 10 + k else R.T x) ≠ 0 at hx
    show R.lo ≤ x
    by_cases e : x = H.next
    · rw [e]; exact h.lo_
    · rw [if_neg e] at hx; exact h.low x hx
  · show R.lo ≤ H2.next
    have := h.lo_
    omega
theorem RN.full {R : RA} (hc : Cfg n) (h : RN R n 5 H) : RR R n H (emptyM n) :=
  ⟨empty_ok hc, _, ⟨h.tbl, h.mil, h.map, h.tb_, h.tm, h.tl, h.new, h.low⟩, fun i p hp => by cases hp⟩
theorem c_refNew (hc : Cfg n) (p : Int) : CW MN 10 [.agg (cfgC n p)] H fun v H' => ∃ R : RA, v = .ptr (some (R.b, 0)) ∧ RR R n H' (emptyM n) ∧ Sm H H' ∧ R.lo = H.next := by
  refine CW_of (fn := af10) rfl ?_
  dsimp only [af10, qm, q, qG, qn, qi, qb, qB, qk, qc, qo, qg, qv, qr]
  have r1 := Rd.newRow H (cfgC n p)
  have s1 := Chg.newRow H (cfgC n p)
  have n1 : (H.newRow (cfgC n p)).next = H.next + 1 := rfl
  unfold cfgC at r1 s1 n1 ⊢
  generalize eH1 : H.newRow [.int .i64 (n 0), .int .i64 (n 1), .int .i64 (n 2), .int .i64 (n 3), .int .i64 (n 4), .int .i64 p] = H1 at *
  have hL : ∀ k, k < 5 → loadA H1 H.next k 1 = some [.int .i64 (n k)] := fun k hk => by
    have := r1.one (j := k) (v := .int .i64 (n k)) (by
      match k, hk with
      | 0, _ => rfl
      | 1, _ => rfl
      | 2, _ => rfl
      | 3, _ => rfl
      | 4, _ => rfl)
    rwa [Nat.zero_add] at this
  have mp := MR.new (kc := pl) (vc := cellV) H1
  have n2 : (H1.new (.map [] 0)).next = H1.next + 1 := rfl
  have g2 : ∀ x, x < H1.next → (H1.new (.map [] 0)).get x = H1.get x := fun x hx => by rw [get_new, if_neg (by omega)]
  generalize eH2 : H1.new (.map [] 0) = H2 at *
  obtain ⟨z1, z2⟩ := zs_at H1.next
  have z3 : 3078 ≤ zs0.length := by unfold zs0; simp only [List.length_append, List.length_replicate]; omega
  generalize eZ : setAt zs0 3077 [.map (some H1.next)] = Z at *
  have bZ := Blk.newRow H2 Z _ z2
  rw [z1] at bZ
  have s3 := Chg.newRow H2 Z
  have n3 : (H2.newRow Z).next = H2.next + 1 := rfl
  generalize eH3 : H2.newRow Z = H3 at *
  have s13 : Sm H H3 := Sm.of (by omega) fun x hx => by rw [s3.gt (by omega), g2 x (by omega), s1.gt hx]
  obtain ⟨R0, hR0, h0, hlo⟩ : ∃ R0 : RA, R0.b = H2.next ∧ RN R0 n 0 H3 ∧ R0.lo = H.next := by
    refine ⟨⟨H2.next, fun _ => 0, H1.next, fun x => if x = H2.next then 1 else if x = H1.next then 2 else 0, H.next⟩, rfl, ⟨⟨xt0 H1.next, ⟨bZ, fun i j p hi => (by cases hi), fun i p hi => (by cases hi)⟩, fun s hs => by omega, rfl⟩, fun s hs => by omega, mp.keep s3.1 (s3.gt (by omega)), if_pos rfl, ?_, fun s hs => by omega, fun x hx => ?_, fun x hx => ?_, (show H.next ≤ H3.next by omega)⟩, rfl⟩
    · show (if H1.next = H2.next then 1 else _) = 2
      rw [if_neg (by omega), if_pos rfl]
    · show (if x = H2.next then 1 else if x = H1.next then 2 else 0) = 0
      rw [if_neg (by omega), if_neg (by omega)]
    · change (if x = H2.next then 1 else if x = H1.next then 2 else 0) ≠ 0 at hx
      show H.next ≤ x
      by_cases e : x = H2.next
      · omega
      · rw [if_neg e] at hx
        by_cases e' : x = H1.next
        · omega
        · rw [if_neg e'] at hx; omega
  have eZ' : zs0.take 3077 ++ [.map (some H1.next)] ++ zs0.drop 3078 = Z := eZ
  have s133 : Sm H1 H3 := Sm.of (by omega) fun x hx => by rw [s3.gt (by omega), g2 x (by omega)]
  simp -implicitDefEqProofs only [eH1, eH2, z3, eZ', eH3, eqA, eqD, go_sem]
  refine WP_mono (Q := fun ex fr G => ex = .exit 0 ∧ fr.get 3 = some (.ptr (some (H2.next, 0))) ∧ ∃ R : RA, R.b = H2.next ∧ RN R n 5 G ∧ Sm H1 G ∧ R.lo = H.next) ?_ (WP_loop (fun m fr G => ∃ (k : Nat) (R : RA), m = 5 - k ∧ k ≤ 5 ∧ fr.get 1 = some (.ptr (some (H.next, 0))) ∧ fr.get 3 = some (.ptr (some (H2.next, 0))) ∧ fr.get 8 = some (.int .i64 k) ∧ R.b = H2.next ∧ RN R n k G ∧ Sm H1 G ∧ R.lo = H.next) 5 ?_ ?_)
  · rintro ex fr G ⟨rfl, g3, R, hR, rn, sm, hl⟩
    simp -implicitDefEqProofs only [g3, eqA, eqD, go_sem]
    exact ⟨R, by rw [hR], rn.full hc, s1.trans sm, hl⟩
  · refine ⟨0, R0, rfl, by omega, ?_⟩
    simp -implicitDefEqProofs only [eqA, eqD, go_sem]
    exact ⟨hR0, h0, s133, hlo⟩
  · rintro m fr G ⟨k, R, hm, hk, g1, g3, g8, hR, rn, sm, hl⟩
    have k0 : (0 : Int) ≤ k := by omega
    by_cases hlt : k < 5
    · have hlt' : (k : Int) < 5 := by omega
      have hw := wrapS hlt (by omega)
      have ld : loadA G H.next k 1 = some [.int .i64 (n k)] := by rw [sm.ld (by omega)]; exact hL k hlt
      simp -implicitDefEqProofs only [g1, g3, g8, hlt', k0, ld, Nat.zero_add, eqA, eqD, go_sem]
      refine CW.mono (c_rNewMill (T := fun x => if x = G.next then 10 + k else R.T x) (lo := R.lo) rn.lo_ (fun x hx => ?_) ?_ (hc.max k hlt)) ?_
      · show (if x = G.next then _ else _) = 0
        rw [if_neg (by omega)]; exact rn.new x (by omega)
      · show (if G.next = G.next then 10 + k else _) ≠ 0
        rw [if_pos rfl]; omega
      · rintro v G1 ⟨rfl, m1, s1'⟩
        obtain ⟨G2, e1, rn2, ch⟩ := rn.step hlt s1' m1 m1.lt
        rw [hR] at e1 ch
        have ld1 : loadA G1 H.next k 1 = some [.int .i64 (n k)] := by rw [(sm.trans s1').ld (by omega)]; exact hL k hlt
        simp -implicitDefEqProofs only [g1, g3, g8, k0, hlt', ld, ld1, e1, hw, eqA, eqD, go_sem]
        exact ⟨5 - (k + 1), by omega, k + 1, { R with ml := upd R.ml k G.next, T := fun x => if x = G.next then 10 + k else R.T x }, rfl, by omega, rfl, hR, rn2, (sm.trans s1').ch (by omega) ch, hl⟩
    · obtain rfl : k = 5 := by omega
      have e5 : ¬ ((5 : Nat) : Int) < 5 := by omega
      simp -implicitDefEqProofs only [g1, g3, g8, e5, Int.lt_irrefl, Bool.false_eq_true, eqA, eqD, go_sem]
      exact ⟨R, hR, rn, sm, hl⟩
end
set_option maxHeartbeats 4000000
structure As4 where
  k : Int
  i : Int
  j : Int
  n : Int
def asC (e : As4) : List AV := [.int .i64 e.k, .int .i64 e.i, .int .i64 e.j, .int .i64 e.n]
abbrev AsE := EncE asC fun _ => True
section
variable {A : PA} {H H' : AHeap}
theorem andB (a : Int) {b : Nat} (hb : b < 4611686018427387904) : ∃ m : Nat, m ≤ b ∧ binA .and (.sc .int) (.int .i64 a) (.int .i64 (b : Int)) = some (.int .i64 (m : Int)) := by
  have h2 : (BitVec.ofInt 64 (b : Int)).toNat = b := by rw [BitVec.toNat_ofInt]; omega
  have h3 : (BitVec.ofInt 64 a &&& BitVec.ofInt 64 (b : Int)).toNat ≤ b := by
    rw [BitVec.toNat_and, h2]; exact Nat.and_le_right
  refine ⟨(BitVec.ofInt 64 a &&& BitVec.ofInt 64 (b : Int)).toNat, h3, ?_⟩
  show some (AV.int .i64 (IntKind.i64.wrap (((BitVec.ofInt 64 a &&& BitVec.ofInt 64 (b : Int)).toNat : Nat) : Int))) = _
  rw [wrap64 (by omega) (by omega)]
theorem smE {H0 : AHeap} (hT : ∀ x, x < H0.next → A.T x = 0) (s : Sm H0 H) (ev : Evo A.d H H') : Sm H0 H' :=
  Sm.of (Nat.le_trans s.1 ev.1) fun x hx => by rw [ev.2 x (Nat.lt_of_lt_of_le hx s.1) (fun hd => hd (hT x hx)), s.gt hx]
end
section
variable {H : AHeap}
end
section
variable {R : RA} {n : Nat → Nat} {H : AHeap} {h : HM}
end
set_option maxHeartbeats 4000000
structure JJ (A : PA) (R : RA) (n : Nat → Nat) (H0 H : AHeap) (h k : HM) : Prop where
  a : HR A n H h
  r : RR R n H k
  ar : ∀ x, R.lo ≤ x → A.T x = 0
  ra : ∀ x, A.T x ≠ 0 → R.T x = 0
  s : Sm H0 H
  a0 : ∀ x, x < H0.next → A.T x = 0
  r0 : ∀ x, x < H0.next → R.T x = 0
section
variable {A : PA} {R : RA} {n : Nat → Nat} {H0 H H' : AHeap} {h k h' k' : HM}
theorem JJ.pa (j : JJ A R n H0 H h k) (hr : HR A n H' h') (ev : Evo A.d H H') : JJ A R n H0 H' h' k :=
  ⟨hr, j.r.evoA j.ar ev, j.ar, j.ra, smE j.a0 j.s ev, j.a0, j.r0⟩
theorem JJ.rr (j : JJ A R n H0 H h k) (hr : RR R n H' k') (ev : Evo R.d H H') : JJ A R n H0 H' h k' :=
  ⟨j.a.evoR j.ra ev, hr, j.ar, j.ra, Sm.of (Nat.le_trans j.s.1 ev.1) fun x hx => by rw [ev.2 x (Nat.lt_of_lt_of_le hx j.s.1) (fun hd => hd (j.r0 x hx)), j.s.gt hx], j.a0, j.r0⟩
theorem JJ.sm (j : JJ A R n H0 H h k) (s : Sm H H') : JJ A R n H0 H' h k :=
  ⟨(j.a.evoS s).1, j.r.sm s, j.ar, j.ra, j.s.trans s, j.a0, j.r0⟩
theorem bool_neq (X : Bool) : binA .neq (.sc .bool) (.bool X) (.bool X) = some (.bool false) := by cases X <;> rfl
def clsM (h : HM) (i : Int) : Int := match obM h i with
  | none => -1
  | some x => x.1
def fldM (h : HM) (i : Int) : Int := match obM h i with
  | none => -1
  | some x => (x.2.length : Int)
theorem c_ClassM (hr : HR A n H h) (i : Int) : CW MN 30 [.ptr (some (A.b, 0)), .int .i64 i] H fun v H' => v = .int .i64 (clsM h i) ∧ HR A n H' h ∧ Evo A.d H H' := c_Class hr i
theorem c_FieldsM (hr : HR A n H h) (i : Int) : CW MN 31 [.ptr (some (A.b, 0)), .int .i64 i] H fun v H' => v = .int .i64 (fldM h i) ∧ HR A n H' h ∧ Evo A.d H H' := c_Fields hr i
theorem c_rClassM (hr : RR R n H h) (i : Int) : CW MN 75 [.ptr (some (R.b, 0)), .int .i64 i] H fun v H' => v = .int .i64 (clsM h i) ∧ Sm H H' := c_rClass hr i
theorem c_rFieldsM (hr : RR R n H h) (i : Int) : CW MN 76 [.ptr (some (R.b, 0)), .int .i64 i] H fun v H' => v = .int .i64 (fldM h i) ∧ Sm H H' := c_rFields hr i
theorem clsM_no {i : Int} (h0 : h.g i = none) : clsM h i = -1 ∧ fldM h i = -1 := by
  unfold clsM fldM obM
  rw [h0]
  exact ⟨rfl, rfl⟩
theorem c_same (j : JJ A R n H0 H h h) : CW MN 26 [.ptr (some (A.b, 0)), .ptr (some (R.b, 0))] H fun v H' => v = .bool true ∧ JJ A R n H0 H' h h := by
  refine CW_of (fn := af26) rfl ?_
  dsimp only [af26, qm, q, qG, qn, qi, qb, qB, qk, qc, qo, qg, qv, qr]
  obtain ⟨c, hb, hx⟩ := j.r.rb
  obtain ⟨xt, ht, -⟩ := hb.tbl
  have ok := j.a.ok
  have hlen : (idsI h.g).length ≤ 1024 := idsN_len h.g 1024
  obtain ⟨G, hG⟩ : ∃ G, G = (greyM h).isNone := ⟨_, rfl⟩
  simp -implicitDefEqProofs only [eqA, eqD, go_sem]
  refine CW.mono (c_IDsR2 ht) ?_
  rintro v H1 ⟨⟨P, sv1, hP⟩, s1⟩
  have j1 := j.sm s1
  obtain ⟨a, s0, cl, rfl, hrow⟩ : ∃ a s0 cl, v = .slice a s0 (idsI h.g).length cl ∧ ((idsI h.g).length ≠ 0 → ∃ x o, a = some (x, o) ∧ H.next ≤ x ∧ Rd H1 x o (ivs (idsI h.g))) := by
    rcases sv1 with ⟨⟨s0, rfl⟩, h1, h2⟩ | ⟨x, i, cl, rfl, hx, -, hr, -⟩
    · exact ⟨none, s0, true, by rw [h2], fun h => absurd h2 h⟩
    · exact ⟨some (x, i), 1, cl, rfl, fun _ => ⟨x, i, rfl, hP _ hx, hr⟩⟩
  simp -implicitDefEqProofs only [eqA, eqD, go_sem]
  refine CW.mono (c_IDsH j1.a) ?_
  rintro w H2 ⟨sv2, s2⟩
  have j2 := j1.sm s2
  obtain ⟨a', s0', cl', rfl, hrow'⟩ := sv2
  have hrow2 : (idsI h.g).length ≠ 0 → ∃ x o, a = some (x, o) ∧ Rd H2 x o (ivs (idsI h.g)) := fun h0 => by
    obtain ⟨x, o, e, -, hr⟩ := hrow h0
    exact ⟨x, o, e, hr.keep s2.1 (s2.gt hr.1)⟩
  have hrow3 : (idsI h.g).length ≠ 0 → ∃ x o, a = some (x, o) ∧ A.T x = 0 ∧ R.T x = 0 ∧ Rd H2 x o (ivs (idsI h.g)) := fun h0 => by
    obtain ⟨x, o, e, hx, hr⟩ := hrow h0
    obtain ⟨F, hbA, -⟩ := j.a.hb
    exact ⟨x, o, e, hbA.new x hx, hb.new x hx, hr.keep s2.1 (s2.gt hr.1)⟩
  simp -implicitDefEqProofs only [eqA, eqD, go_sem]
  refine CW.mono (c_Same (l := idsI h.g) ⟨a', s0', cl', rfl, hrow'⟩ ⟨a, s0, cl, rfl, hrow2⟩ (by omega)) ?_
  rintro w H2' ⟨rfl, rfl⟩
  simp -implicitDefEqProofs only [Bool.not_true, eqA, eqD, go_sem]
  refine CW.mono (c_Done j2.a) ?_
  rw [← hG]
  rintro w H2' ⟨rfl, rfl⟩
  simp -implicitDefEqProofs only [eqA, eqD, go_sem]
  refine CW.mono (c_rDone j2.r) ?_
  rw [← hG]
  rintro w H2' ⟨rfl, rfl⟩
  have bn := bool_neq G
  simp -implicitDefEqProofs only [↓bn, Bool.false_eq_true, eqA, eqD, go_sem]
  refine WP_mono (Q := fun ex fr H' => ex = .exit 0 ∧ fr.get 0 = some (.ptr (some (A.b, 0))) ∧ JJ A R n H0 H' h h) ?_ (WP_loop (fun m fr H' => ∃ q : Nat, m = (idsI h.g).length - q ∧ q ≤ (idsI h.g).length ∧ fr.get 0 = some (.ptr (some (A.b, 0))) ∧ fr.get 1 = some (.ptr (some (R.b, 0))) ∧ fr.get 29 = some (.slice a s0 (idsI h.g).length cl) ∧ fr.get 30 = some (.int .i64 (idsI h.g).length) ∧ fr.get 31 = some (.int .i64 q) ∧ JJ A R n H0 H' h h ∧ ((idsI h.g).length ≠ 0 → ∃ x o, a = some (x, o) ∧ A.T x = 0 ∧ R.T x = 0 ∧ Rd H' x o (ivs (idsI h.g)))) (idsI h.g).length ?_ ?_)
  · rintro ex fr H' ⟨rfl, g0, j3⟩
    have z1 : clsM h (-1) = -1 := by
      cases e : h.g (-1) with
      | none => exact (clsM_no e).1
      | some p => have := ok.dom _ _ e; omega
    have z2 : fldM h 3 = -1 := by
      cases e : h.g 3 with
      | none => exact (clsM_no e).2
      | some p => have := ok.dom _ _ e; omega
    have z3 : colorM h 4611686018427387904 = -1 := by
      unfold colorM
      cases e : h.g 4611686018427387904 with
      | none => rfl
      | some p => have := ok.dom _ _ e; omega
    simp -implicitDefEqProofs only [g0, eqA, eqD, go_sem]
    refine CW.mono (c_ClassM j3.a (-1)) ?_
    rw [z1]
    rintro v H4 ⟨rfl, r4, ev4⟩
    have j4 := j3.pa r4 ev4
    simp -implicitDefEqProofs only [g0, BEq.rfl, eqA, eqD, go_sem]
    refine CW.mono (c_FieldsM j4.a 3) ?_
    rw [z2]
    rintro v H5 ⟨rfl, r5, ev5⟩
    have j5 := j4.pa r5 ev5
    simp -implicitDefEqProofs only [g0, BEq.rfl, eqA, eqD, go_sem]
    refine CW.mono (c_Color j5.a 4611686018427387904) ?_
    rw [z3]
    rintro v H6 ⟨rfl, r6, ev6⟩
    simp -implicitDefEqProofs only [g0, BEq.rfl, eqA, eqD, go_sem]
    exact j5.pa r6 ev6
  · refine ⟨0, rfl, by omega, ?_⟩
    simp -implicitDefEqProofs only [eqA, eqD, go_sem]
    exact ⟨j2, hrow3⟩
  · rintro m fr H3 ⟨q, hm, hq, g0, g1, g29, g30, g31, j3, row⟩
    have q0 : (0 : Int) ≤ q := by omega
    by_cases hlt : q < (idsI h.g).length
    · have hlt' : (q : Int) < ((idsI h.g).length : Int) := by omega
      have hw := wrapS hlt (by omega)
      obtain ⟨x, o, rfl, tA, tR, hr⟩ := row (by omega)
      have ld := hr.one (j := q) (v := .int .i64 (idsI h.g)[q]) (by simp [ivs, iv, hlt])
      generalize (idsI h.g)[q] = i at *
      have rowE : ∀ {G G'}, Evo A.d G G' → Rd G x o (ivs (idsI h.g)) → Rd G' x o (ivs (idsI h.g)) := fun ev hr => hr.keep ev.1 (ev.2 x hr.1 fun hd => hd tA)
      simp -implicitDefEqProofs only [g0, g1, g29, g30, g31, hlt', q0, ld, eqA, eqD, go_sem]
      refine CW.mono (c_ClassM j3.a i) ?_
      rintro v H4 ⟨rfl, r4, ev4⟩
      have j4 := j3.pa r4 ev4
      have row4 := rowE ev4 hr
      simp -implicitDefEqProofs only [g0, g1, eqA, eqD, go_sem]
      refine CW.mono (c_rClassM j4.r i) ?_
      rintro v H5 ⟨rfl, s5⟩
      have j5 := j4.sm s5
      have row5 := row4.keep s5.1 (s5.gt row4.1)
      simp -implicitDefEqProofs only [g0, g1, bne_self_eq_false, Bool.false_eq_true, eqA, eqD, go_sem]
      refine CW.mono (c_FieldsM j5.a i) ?_
      rintro v H6 ⟨rfl, r6, ev6⟩
      have j6 := j5.pa r6 ev6
      have row6 := rowE ev6 row5
      simp -implicitDefEqProofs only [g0, g1, eqA, eqD, go_sem]
      refine CW.mono (c_rFieldsM j6.r i) ?_
      rintro v H7 ⟨rfl, s7⟩
      have j7 := j6.sm s7
      have row7 := row6.keep s7.1 (s7.gt row6.1)
      obtain ⟨L, hL⟩ : ∃ L : Int, L = fldM h i := ⟨_, rfl⟩
      rw [← hL]
      have hL1 : -1 ≤ L ∧ L ≤ 62 := by
        rw [hL]
        cases e : h.g i with
        | none => rw [(clsM_no e).2]; exact ⟨by omega, by omega⟩
        | some p =>
          unfold fldM obM
          rw [e]
          obtain ⟨-, -, -, -, -, -, -, -, h62⟩ := ok.place e
          exact ⟨by show (-1 : Int) ≤ ((h.X p).2.length : Int); omega, by show ((h.X p).2.length : Int) ≤ 62; omega⟩
      simp -implicitDefEqProofs only [g0, g1, bne_self_eq_false, Bool.false_eq_true, eqA, eqD, go_sem]
      refine CW.mono (c_Color j7.a i) ?_
      rintro v H8 ⟨rfl, r8, ev8⟩
      have j8 := j7.pa r8 ev8
      have row8 := rowE ev8 row7
      simp -implicitDefEqProofs only [g0, g1, eqA, eqD, go_sem]
      refine CW.mono (c_rColorH j8.r i) ?_
      rintro v H9 ⟨rfl, s9⟩
      have j9 := j8.sm s9
      have row9 := row8.keep s9.1 (s9.gt row8.1)
      simp -implicitDefEqProofs only [g0, g1, bne_self_eq_false, Bool.false_eq_true, eqA, eqD, go_sem]
      refine WP_mono (Q := fun ex fr H' => ex = .exit 2 ∧ fr.get 0 = some (.ptr (some (A.b, 0))) ∧ fr.get 1 = some (.ptr (some (R.b, 0))) ∧ fr.get 29 = some (.slice (some (x, o)) s0 (idsI h.g).length cl) ∧ fr.get 30 = some (.int .i64 (idsI h.g).length) ∧ fr.get 31 = some (.int .i64 q) ∧ JJ A R n H0 H' h h ∧ Rd H' x o (ivs (idsI h.g))) ?_ (WP_loop (fun m fr H' => ∃ t : Nat, m = 64 - t ∧ (t : Int) ≤ L + 2 ∧ fr.get 0 = some (.ptr (some (A.b, 0))) ∧ fr.get 1 = some (.ptr (some (R.b, 0))) ∧ fr.get 7 = some (.int .i64 i) ∧ fr.get 8 = some (.int .i64 ((t : Int) - 1)) ∧ fr.get 29 = some (.slice (some (x, o)) s0 (idsI h.g).length cl) ∧ fr.get 30 = some (.int .i64 (idsI h.g).length) ∧ fr.get 31 = some (.int .i64 q) ∧ JJ A R n H0 H' h h ∧ Rd H' x o (ivs (idsI h.g))) 64 ?_ ?_)
      · rintro ex fr H' ⟨rfl, g0, g1, g29, g30, g31, jz, rz⟩
        simp -implicitDefEqProofs only [g0, g1, g29, g30, g31, hw, eqA, eqD, go_sem]
        exact ⟨(idsI h.g).length - (q + 1), by omega, q + 1, rfl, by omega, rfl, jz, fun _ => ⟨x, o, rfl, tA, tR, rz⟩⟩
      · refine ⟨0, rfl, by omega, ?_⟩
        simp -implicitDefEqProofs only [g0, g1, g29, g30, g31, eqA, eqD, go_sem]
        exact ⟨j9, row9⟩
      · rintro m fr Ha ⟨t, hm', ht, g0, g1, g7, g8, g29, g30, g31, ja, rowa⟩
        simp -implicitDefEqProofs only [g0, g1, g7, g8, g29, g30, g31, eqA, eqD, go_sem]
        refine CW.mono (c_rFieldsM ja.r i) ?_
        rintro v Hb ⟨rfl, sb⟩
        have jb := ja.sm sb
        have rowb := rowa.keep sb.1 (sb.gt rowa.1)
        rw [← hL]
        by_cases hle : (t : Int) - 1 ≤ L
        · have hw2 : IntKind.i64.wrap ((t : Int) - 1 + 1) = ((t + 1 : Nat) : Int) - 1 := by rw [wrap64 (by omega) (by omega)]; omega
          simp -implicitDefEqProofs only [g0, g1, g7, g8, g29, g30, g31, hle, eqA, eqD, go_sem]
          refine CW.mono (c_Get jb.a i ((t : Int) - 1)) ?_
          rintro v Hc ⟨rfl, rc, evc⟩
          have jc := jb.pa rc evc
          have rowc := rowE evc rowb
          simp -implicitDefEqProofs only [g0, g1, g7, g8, g29, g30, g31, eqA, eqD, go_sem]
          refine CW.mono (c_rGet jc.r i ((t : Int) - 1)) ?_
          rintro v Hd ⟨rfl, sd⟩
          have jd := jc.sm sd
          have rowd := rowc.keep sd.1 (sd.gt rowc.1)
          obtain ⟨z, hz⟩ : ∃ z : Int, z = (getM h i ((t : Int) - 1)).getD 0 := ⟨_, rfl⟩
          obtain ⟨B, hB⟩ : ∃ B : Bool, B = (getM h i ((t : Int) - 1)).isSome := ⟨_, rfl⟩
          rw [← hz, ← hB]
          have bB := bool_neq B
          simp -implicitDefEqProofs only [g0, g1, g7, g8, g29, g30, g31, ↓bB, bne_self_eq_false, Bool.false_eq_true, hw2, eqA, eqD, go_sem]
          exact ⟨64 - (t + 1), by omega, t + 1, rfl, by omega, rfl, jd, rowd⟩
        · simp -implicitDefEqProofs only [g0, g1, g7, g8, g29, g30, g31, hle, Bool.false_eq_true, eqA, eqD, go_sem]
          exact ⟨jb, rowb⟩
    · obtain rfl : q = (idsI h.g).length := by omega
      simp -implicitDefEqProofs only [g0, g1, g29, g30, g31, Int.lt_irrefl, Bool.false_eq_true, eqA, eqD, go_sem]
      exact j3
end
set_option maxHeartbeats 8000000
theorem rd4 {G : AHeap} {b : Nat} {e : As4} (r : Rd G b 0 (asC e)) : loadA G b 0 1 = some [.int .i64 e.k] ∧ loadA G b 1 1 = some [.int .i64 e.i] ∧ loadA G b 2 1 = some [.int .i64 e.j] ∧ loadA G b 3 1 = some [.int .i64 e.n] := by
  have a0 := r.one (j := 0) (v := .int .i64 e.k) rfl
  have a1 := r.one (j := 1) (v := .int .i64 e.i) rfl
  have a2 := r.one (j := 2) (v := .int .i64 e.j) rfl
  have a3 := r.one (j := 3) (v := .int .i64 e.n) rfl
  simp only [Nat.zero_add] at a0 a1 a2 a3
  exact ⟨a0, a1, a2, a3⟩
section
variable {H : AHeap}
end
set_option maxHeartbeats 8000000
abbrev flA (L : List As4) : List AV := L.flatMap asC
theorem flA_at : ∀ {L : List As4} {j : Nat} (hj : j < L.length), ((flA L).drop (j * 4)).take 4 = asC L[j]
  | e :: L, 0, _ => rfl
  | e :: L, j + 1, hj => by
    have h := flA_at (L := L) (j := j) (by simpa using hj)
    rw [List.getElem_cons_succ, ← h]
    show ((asC e ++ flA L).drop ((j + 1) * 4)).take 4 = _
    rw [show (j + 1) * 4 = (asC e).length + j * 4 by simp [asC]; omega, List.drop_length_add_append]
section
variable {H : AHeap}
theorem Sl.asks {D : Nat → Prop} {v : AV} {L : List As4} {n : Nat} (h : Sl H D 4 v n (flA L)) (hn : n = L.length) (hm : L.length ≤ 9223372036854775807) : SlE AsE 4 H L [v] :=
  h.slE hn hm fun j hj => ⟨flA_at hj, trivial⟩
end
set_option maxHeartbeats 8000000
section
variable {H : AHeap}
end
end Go.Proofs.YtaihjlemofgokaaGreat.AA
