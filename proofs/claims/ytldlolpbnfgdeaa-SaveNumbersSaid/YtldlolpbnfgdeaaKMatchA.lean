/- save.match.same: two objects that are met now. -/
import Derived.Test.YtldlolpbnfgdeaaKMatch
namespace Go.Proofs.Ytldlolpbnfgdeaa
open Go Go.RowKit

theorem upd_snoc {κ ν : Type} [DecidableEq κ] (M : List (κ × ν)) (k : κ) (v v0 : ν) (h : k ∉ M.map (·.1)) : upd (upd M k v0) k v = M ++ [(k, v)] := by
  have h1 : upd M k v0 = M ++ [(k, v0)] := by unfold upd; rw [if_neg h]
  rw [h1]
  unfold upd
  rw [if_pos (by simp), List.map_append]
  congr 1
  · conv => rhs; rw [← List.map_id M]
    refine List.map_congr_left fun p hp => ?_
    rw [if_neg fun e => h (List.mem_map.2 ⟨p, hp, e⟩)]; rfl
  · simp
theorem MatchR.add {w w1 w2 w3 : World} {q p1 p2 : Nat} {La Lb : List SObj} {F1 F2 : List Nat} {mm mt mk : Nat} {M : List (Int × Int)} (h : MatchR w q p1 p2 La Lb F1 F2 mm mt mk M) (a b : Int)
    (m1 : Mod [mm] w w1) (r1 : MapR w1 mm pairv boolv (M.map (fun p => (p, true)) ++ [((a, b), true)])) (m2 : Mod [mt] w1 w2) (r2 : MapR w2 mt i64v i64v (M ++ [(a, b)])) (m3 : Mod [mk] w2 w3) (r3 : MapR w3 mk i64v i64v (M.map (fun p => (p.2, p.1)) ++ [(b, a)])) :
    MatchR w3 q p1 p2 La Lb F1 F2 mm mt mk (M ++ [(a, b)]) ∧ Mod [mm, mt, mk] w w3 := by
  have hm : Mod [mm, mt, mk] w w3 := ((m1.mono (by simp)).trans (m2.mono (by simp)) (fun b hb => .inl hb)).trans (m3.mono (by simp)) (fun b hb => .inl hb)
  obtain ⟨d0, d1, d2, d3⟩ := h.dq
  refine ⟨⟨h.s1.mod hm h.d1, h.s2.mod hm h.d2, blk_mod h.blk hm d0, ?_, ?_, ?_, h.d1, h.d2, h.dq⟩, hm⟩
  · rw [List.map_append]
    exact (r1.mod m2 (by simp [d1])).mod m3 (by simp [d2])
  · exact r2.mod m3 (by simp [d3])
  · rw [List.map_append]
    exact r3

theorem cells5 {w : World} {q p1 p2 mm mt mk : Nat} (h : w.heap[q]? = some (.cells #[.iface 25 (.pointer (some ⟨p1, 0, none⟩)), .iface 25 (.pointer (some ⟨p2, 0, none⟩)), .map (some mm), .map (some mt), .map (some mk)] 99 (0, 0))) :
    w.cell? ⟨q, 0, none⟩ = some (.iface 25 (.pointer (some ⟨p1, 0, none⟩))) ∧ w.cell? ⟨q, 1, none⟩ = some (.iface 25 (.pointer (some ⟨p2, 0, none⟩))) ∧
    w.cell? ⟨q, 2, none⟩ = some (.map (some mm)) ∧ w.cell? ⟨q, 3, none⟩ = some (.map (some mt)) ∧ w.cell? ⟨q, 4, none⟩ = some (.map (some mk)) := by
  refine ⟨?_, ?_, ?_, ?_, ?_⟩ <;> (rw [cell_of_blk h]; rfl)

section
variable {La Lb : List SObj} (fa : Fit La) (fb : Fit Lb)
include fa fb
set_option maxHeartbeats 4000000 in
set_option maxRecDepth 100000 in
theorem same_main (n : Nat) (ih : ∀ (x y : Nat) (q p1 p2 : Nat) (F1 F2 : List Nat) (mm mt mk : Nat) (M : List (Int × Int)) (w : World), x < 4294967296 → y < 4294967296 → MatchR w q p1 p2 La Lb F1 F2 mm mt mk M → Wf La Lb M → La.length - M.length < n →
    Calls Try.prog 57 #[.pointer (some ⟨q, 0, none⟩), .int .u32 (x : Int), .int .u32 (y : Int)] w fun e w' => SamePost La Lb n x y M q p1 p2 F1 F2 mm mt mk w e w')
    (x y : Nat) (q p1 p2 : Nat) (F1 F2 : List Nat) (mm mt mk : Nat) (M : List (Int × Int)) (w : World) (hx : x < 4294967296) (hy : y < 4294967296) (h : MatchR w q p1 p2 La Lb F1 F2 mm mt mk M) (hwf : Wf La Lb M) (hn : La.length - M.length < n + 1)
    (a' b' : Nat) (hix' : idO x = some a') (hiy' : idO y = some b') (o1 o2 : SObj) (ho1 : getO La (a' : Int) = some o1) (ho2 : getO Lb (b' : Int) = some o2) (hm : ((a' : Int), (b' : Int)) ∉ M) (hna : (a' : Int) ∉ M.map (·.1)) (hnb : (b' : Int) ∉ M.map (·.2)) (hcl : o1.1 = o2.1) (hln : o1.2.length = o2.2.length)
    (hsm : sameP La Lb (n + 1) x y M = foldM' (fun M p => sameP La Lb n p.1 p.2 M) (o1.2.zip o2.2) (M ++ [((a' : Int), (b' : Int))])) :
    Calls Try.prog 57 #[.pointer (some ⟨q, 0, none⟩), .int .u32 (x : Int), .int .u32 (y : Int)] w fun e w' => SamePost La Lb (n + 1) x y M q p1 p2 F1 F2 mm mt mk w e w' := by
  obtain ⟨hq0, hq1, hq2, hq3, hq4⟩ := h.cells
  have hmc1 := fun w => m_class ⟨p1, 0, none⟩ w
  have hmc2 := fun w => m_class ⟨p2, 0, none⟩ w
  have hmf1 := fun w => m_fields ⟨p1, 0, none⟩ w
  have hmf2 := fun w => m_fields ⟨p2, 0, none⟩ w
  have hmg1 := fun w => m_get ⟨p1, 0, none⟩ w
  have hmg2 := fun w => m_get ⟨p2, 0, none⟩ w
  have hl1 := fa.len
  have hl2 := fb.len
  have hale := idO_le hix' hx
  have hble := idO_le hiy' hy
  have hix := w_id x hx
  have hiy := w_id y hy
  rw [hix'] at hix
  rw [hiy'] at hiy
  unfold u32v idVal at hix hiy
  have hcxd := fun k => s_class (w := w.drewN k) (a' : Int) (h.drew k).s1 (by omega) hale (by omega)
  have hcyd := fun k => s_class (w := w.drewN k) (b' : Int) (h.drew k).s2 (by omega) hble (by omega)
  have hfyd := fun k => s_fields (w := w.drewN k) (b' : Int) (h.drew k).s2 (by omega) hble (by omega)
  have hcx := s_class (a' : Int) h.s1 (by omega) hale (by omega)
  have hcy := s_class (b' : Int) h.s2 (by omega) hble (by omega)
  have hfx := s_fields (a' : Int) h.s1 (by omega) hale (by omega)
  rw [show clsO La a' = o1.1 by unfold clsO; rw [ho1]] at hcx hcxd
  rw [show clsO Lb b' = o1.1 by unfold clsO; rw [ho2, hcl]] at hcy hcyd
  rw [show lenO La a' = o1.2.length by unfold lenO; rw [ho1]] at hfx
  rw [show lenO Lb b' = o1.2.length by unfold lenO; rw [ho2, hln]] at hfyd
  have hm1 := List.mem_of_getElem? (getO_some ho1).2.2
  have hm2 := List.mem_of_getElem? (getO_some ho2).2.2
  have hp1 := fa.cls o1 hm1
  have hw1 := fa.wd o1 hm1
  have hw2 := fb.wd o2 hm2
  have hlen62 := hw1.1
  have hlm := h.met.lookup (P := Try.prog) key_pair Try.underlying97 (z := .bool false) (fun _ => by kernel_rfl) ((a' : Int), (b' : Int))
  have hlt := h.there.lookup_ok (P := Try.prog) (keyInt Try.underlying3) Try.underlying42 (z := .int .i64 0) (fun _ => by kernel_rfl) (a' : Int)
  have hlk := h.back.lookup_ok (P := Try.prog) (keyInt Try.underlying3) Try.underlying42 (z := .int .i64 0) (fun _ => by kernel_rfl) (b' : Int)
  rw [get?_mapConst, if_neg hm] at hlm
  have hbk : (b' : Int) ∉ (M.map fun p => (p.2, p.1)).map (·.1) := by simpa using hnb
  have hpk : ((a' : Int), (b' : Int)) ∉ (M.map fun p => (p, true)).map (·.1) := by simpa using hm
  rw [(get?_none _ _).2 hbk] at hlk
  rw [(get?_none _ _).2 hna] at hlt
  simp only [pairv, i64v] at hlm hlt hlk
  have hbm1 : mm ∉ [mt] ∧ mm ∉ [mk] ∧ mt ∉ [mm] ∧ mt ∉ [mk] ∧ mk ∉ [mm] ∧ mk ∉ [mt] := by
    obtain ⟨-, d1, d2, d3⟩ := h.dq
    simp [d1, d2, d3, d1.symm, d2.symm, d3.symm]
  have hS0 := h.cells
  have HSM := Lib.hid hsm
  have HH := Lib.hid h
  have HO1 := Lib.hid ho1
  have HO2 := Lib.hid ho2
  have HW1 := Lib.hid hw1
  have HW2 := Lib.hid hw2
  have HWF := Lib.hid hwf
  clear hsm h ho1 ho2 hix' hiy' hw1 hw2 hwf hm1 hm2
  go_enter Try.func57, Try.ntmps57
  go_wp2_with (first | (go_at_call_of 87 (x : Int); refine (hix _).mono ?_; rintro e w' ⟨rfl, rfl⟩) | (go_at_call_of 87 (y : Int); refine (hiy _).mono ?_; rintro e w' ⟨rfl, rfl⟩) | (go_at_call_of 26 (Value.pointer (some ⟨p1, 0, none⟩)); refine hcx.mono ?_; rintro e w' ⟨rfl, rfl⟩) | (go_at_call_of 26 (Value.pointer (some ⟨p2, 0, none⟩)); refine hcy.mono ?_; rintro e w' ⟨rfl, rfl⟩) | (go_at_call_of 23 (Value.pointer (some ⟨p1, 0, none⟩)); refine hfx.mono ?_; rintro e w' ⟨rfl, rfl⟩))
  go_quiet ((first | (go_at_call_of 26 (Value.pointer (some ⟨p1, 0, none⟩)); exact Calls.quiet_of_same ((hcxd _).mono fun e w' h => ⟨h.1, h.2.symm⟩)) | (go_at_call_of 26 (Value.pointer (some ⟨p2, 0, none⟩)); exact Calls.quiet_of_same ((hcyd _).mono fun e w' h => ⟨h.1, h.2.symm⟩)) | (go_at_call_of 23 (Value.pointer (some ⟨p2, 0, none⟩)); exact Calls.quiet_of_same ((hfyd _).mono fun e w' h => ⟨h.1, h.2.symm⟩))))
  have hS1 : ∀ j, ((w.drewN j).cell? ⟨q, 0, none⟩ = some (.iface 25 (.pointer (some ⟨p1, 0, none⟩))) ∧ (w.drewN j).cell? ⟨q, 1, none⟩ = some (.iface 25 (.pointer (some ⟨p2, 0, none⟩))) ∧
    (w.drewN j).cell? ⟨q, 2, none⟩ = some (.map (some mm)) ∧ (w.drewN j).cell? ⟨q, 3, none⟩ = some (.map (some mt)) ∧ (w.drewN j).cell? ⟨q, 4, none⟩ = some (.map (some mk))) := fun _ => hS0
  have hMd : Mod [] w (w.drewN nq).drew := (drewN_mod w nq).drew
  have HHd := HH.out.drew nq |>.drew 1
  go_wp2_with fail
  refine wp_plan [0, 1, 2, 3, 4, 5, 6, 7, 8, 9, 10, 11, 12, 13, 14, 15, 16, 17, 18] [19, 20, 21, 22, 23, 24, 25, 26, 27] (fun w' => w'.cell? ⟨q, 0, none⟩ = some (.iface 25 (.pointer (some ⟨p1, 0, none⟩))) ∧ w'.cell? ⟨q, 1, none⟩ = some (.iface 25 (.pointer (some ⟨p2, 0, none⟩))) ∧
    w'.cell? ⟨q, 2, none⟩ = some (.map (some mm)) ∧ w'.cell? ⟨q, 3, none⟩ = some (.map (some mt)) ∧ w'.cell? ⟨q, 4, none⟩ = some (.map (some mk))) (by kernel_rfl) (by kernel_rfl) hS0 ?_
  simp only [pickAll, List.filterMap_cons, List.filterMap_nil, List.getElem?_cons_succ, List.getElem?_cons_zero]
  repeat (refine' wpTake_step rfl (fun w hS => by obtain ⟨hS0, hS1, hS2, hS3, hS4⟩ := hS; go_simp; rfl) ?_; simp only [Act.put, List.setIfInBounds_toArray, List.set_cons_zero, List.set_cons_succ])
  refine wpTake_nil ?_
  have HHd : MatchR (w.drewN nq).drew q p1 p2 La Lb F1 F2 mm mt mk M := (HH.out.drew nq).drew 1
  obtain ⟨hqd0, hqd⟩ := HH.out.dq
  have hqs : q ∉ [mm] ∧ q ∉ [mt] ∧ q ∉ [mk] := by simp at hqd0 ⊢; exact hqd0
  clear hmc1 hmc2 hmf1 hmf2 hix hiy hcxd hcyd hfyd hcx hcy hfx hlm hlt hlk hS0 hS1 hq0 hq1 hq2 hq3 hq4 hqd0 hqd
  generalize (w.drewN nq).drew = w1 at *
  refine wpRest_one (by kernel_rfl) (fun K hK => ?_)
  refine wpList_entry rfl _ _ rfl key_pair Try.underlying97 false (fun _ => by kernel_rfl) HHd.met ((a' : Int), (b' : Int)) rfl rfl (fun w2 st1 hE1 hmd1 => ?_)
  refine wpList_nil ?_
  have hb2 := blk_mod HHd.blk hmd1 hqs.1
  refine hK _ _ (cells5 hb2) ?_
  clear hK K
  refine wpRest_one (by kernel_rfl) (fun K hK => ?_)
  go_wp2
  refine hK _ _ (cells5 hb2) ?_
  clear hK K
  refine wpRest_one (by kernel_rfl) (fun K hK => ?_)
  refine wpList_entryStore rfl _ _ _ rfl hE1 true rfl rfl rfl (fun w3 hr1 hmd2 => ?_)
  refine wpList_nil ?_
  have hb3 := blk_mod hb2 hmd2 hqs.1
  refine hK _ _ (cells5 hb3) ?_
  clear hK K hb2
  have hM1 : Mod [mm] w1 w3 := hmd1.trans hmd2 (fun b hb => .inl hb)
  clear hmd1 hmd2 hE1
  refine wpRest_one (by kernel_rfl) (fun K hK => ?_)
  refine wpList_entry rfl _ _ rfl (keyInt Try.underlying3) Try.underlying42 (0 : Int) (fun _ => by kernel_rfl) (HHd.there.mod hM1 hbm1.2.2.1) (a' : Int) rfl rfl (fun w4 st2 hE2 hmd1 => ?_)
  refine wpList_nil ?_
  have hb4 := blk_mod hb3 hmd1 hqs.2.1
  refine hK _ _ (cells5 hb4) ?_
  clear hK K
  refine wpRest_one (by kernel_rfl) (fun K hK => ?_)
  go_wp2
  refine hK _ _ (cells5 hb4) ?_
  clear hK K
  refine wpRest_one (by kernel_rfl) (fun K hK => ?_)
  refine wpList_entryStore rfl _ _ _ rfl hE2 (b' : Int) rfl rfl rfl (fun w5 hr2 hmd2 => ?_)
  refine wpList_nil ?_
  have hb5 := blk_mod hb4 hmd2 hqs.2.1
  refine hK _ _ (cells5 hb5) ?_
  clear hK K hb4 hb3
  have hM2 : Mod [mt] w3 w5 := hmd1.trans hmd2 (fun b hb => .inl hb)
  clear hmd1 hmd2 hE2
  refine wpRest_one (by kernel_rfl) (fun K hK => ?_)
  refine wpList_entry rfl _ _ rfl (keyInt Try.underlying3) Try.underlying42 (0 : Int) (fun _ => by kernel_rfl) ((HHd.back.mod hM1 hbm1.2.2.2.2.1).mod hM2 hbm1.2.2.2.2.2) (b' : Int) rfl rfl (fun w6 st3 hE3 hmd1 => ?_)
  refine wpList_nil ?_
  have hb6 := blk_mod hb5 hmd1 hqs.2.2
  refine hK _ _ (cells5 hb6) ?_
  clear hK K
  refine wpRest_one (by kernel_rfl) (fun K hK => ?_)
  go_wp2
  refine hK _ _ (cells5 hb6) ?_
  clear hK K
  refine wpRest_last (by kernel_rfl) ?_
  refine wpList_entryStore rfl _ _ _ rfl hE3 (a' : Int) rfl rfl rfl (fun w7 hr3 hmd2 => ?_)
  refine wpList_nil ?_
  refine NoP_normal ?_
  have hM3 : Mod [mk] w5 w7 := hmd1.trans hmd2 (fun b hb => .inl hb)
  clear hmd1 hmd2 hE3 hb6 hb5
  rw [upd_snoc _ _ _ _ hpk] at hr1
  rw [upd_snoc _ _ _ _ hna] at hr2
  rw [upd_snoc _ _ _ _ hbk] at hr3
  obtain ⟨hR0, hM0⟩ := HHd.add (a' : Int) (b' : Int) hM1 hr1 hM2 hr2 hM3 hr3
  have hM7 : Mod [mm, mt, mk] w w7 := (hMd.mono (by simp)).trans hM0 (fun b hb => .inl hb)
  have hwf1 := HWF.out.snoc hna hnb (by rw [HO1.out]; rfl) (by rw [HO2.out]; rfl)
  have hwl := hwf1.len
  have hn1 : La.length - (M ++ [((a' : Int), (b' : Int))]).length < n := by simp at hwl ⊢; omega
  have HR0 := Lib.hid hR0
  have HM7 := Lib.hid hM7
  have HWF1 := Lib.hid hwf1
  have HIH := Lib.hid ih
  generalize hM1' : M ++ [((a' : Int), (b' : Int))] = M1 at *
  clear hM1 hr1 hM2 hr2 hM3 hr3 hM0 hMd hR0 hM7 hwf1 ih hbm1 hqs hpk hbk hna hnb hwl
  go_wp2_with fail
  go_loopw [152] (fun i wr => ∃ (k : Nat) (M' : List (Int × Int)), k ≤ o1.2.length ∧ i = .int .i64 k ∧ Hid (foldM' (fun M p => sameP La Lb n p.1 p.2 M) ((o1.2.zip o2.2).take k) M1 = some M') ∧ Hid (MatchR wr q p1 p2 La Lb F1 F2 mm mt mk M') ∧ Hid (Wf La Lb M') ∧ Hid (Mod [mm, mt, mk] w wr) ∧ La.length - M'.length < n) (fun i _ => o1.2.length - (intOf i).toNat)
  case atStart => exact ⟨0, M1, by omega, rfl, rfl, HR0, HWF1, HM7, hn1⟩
  case round =>
    obtain ⟨k, M', hk, rfl, hF, hR, hWf, hMm, hn'⟩ := hrel
    obtain ⟨hq0, hq1, hq2, hq3, hq4⟩ := hR.out.cells
    by_cases hlt : k < o1.2.length
    · have hlt' : (k : Int) < o1.2.length := by omega
      have hlt2 : k < o2.2.length := by omega
      have hg1 := s_get (w := wr) (a' : Int) (k : Int) hR.out.s1 (by omega) hale (by omega) (fun o ho => (fa.wd o ho).1)
      have hg2 := s_get (w := wr) (b' : Int) (k : Int) hR.out.s2 (by omega) hble (by omega) (fun o ho => (fb.wd o ho).1)
      rw [show fldO La (a' : Int) (k : Int) = some o1.2[k] by unfold fldO; rw [HO1.out]; simp [hlt]] at hg1
      rw [show fldO Lb (b' : Int) (k : Int) = some o2.2[k] by unfold fldO; rw [HO2.out]; simp [hlt2]] at hg2
      unfold getVal u32v at hg1 hg2
      have hX := HW1.out.2 _ (List.getElem_mem hlt)
      have hY := HW2.out.2 _ (List.getElem_mem hlt2)
      have hz : (o1.2.zip o2.2)[k]? = some (o1.2[k], o2.2[k]) := by
        rw [List.getElem?_eq_getElem (by simp; omega)]; simp
      have hft := foldM'_take (fun M p => sameP La Lb n p.1 p.2 M) _ M1 k _ hz
      rw [hF.out] at hft
      simp only [Option.bind_some] at hft
      have hrec := HIH.out o1.2[k] o2.2[k] q p1 p2 F1 F2 mm mt mk M' wr hX hY hR.out hWf.out hn'
      unfold SamePost at hrec
      clear hz
      generalize o1.2[k] = X at *
      generalize o2.2[k] = Y at *
      cases hs : sameP La Lb n X Y M' with
      | none =>
        rw [hs] at hrec hft
        simp only at hrec
        have hfin := foldM'_none _ _ _ _ hft
        have HS := Lib.hid (HSM.out.trans hfin)
        clear hft hfin hs
        go_wp2_with (first | (go_at_call_of 24 (Value.pointer (some ⟨p1, 0, none⟩)); refine hg1.mono ?_; rintro e w' ⟨rfl, rfl⟩) | (go_at_call_of 24 (Value.pointer (some ⟨p2, 0, none⟩)); refine hg2.mono ?_; rintro e w' ⟨rfl, rfl⟩) | (go_at_call 57; refine hrec.mono ?_; rintro e wc ⟨rfl, hmr⟩))
        go_ret
        refine ⟨?_, hMm.out.trans hmr (fun b hb => .inl hb)⟩
        rw [HS.out]
        rfl
      | some M2 =>
        rw [hs] at hrec hft
        simp only at hrec
        have hwent := sameP_went n X Y M' M2 hWf.out hs
        have HFT := Lib.hid hft
        have HWT := Lib.hid hwent
        clear hft hwent hs
        go_wp2_with (first | (go_at_call_of 24 (Value.pointer (some ⟨p1, 0, none⟩)); refine hg1.mono ?_; rintro e w' ⟨rfl, rfl⟩) | (go_at_call_of 24 (Value.pointer (some ⟨p2, 0, none⟩)); refine hg2.mono ?_; rintro e w' ⟨rfl, rfl⟩) | (go_at_call 57; refine hrec.mono ?_; rintro e wc ⟨⟨rfl, hr2⟩, hmr⟩))
        go_roundw
        case rel =>
          exact ⟨k + 1, M2, by omega, by go_num, HFT, hr2, HWT.out.wf, hMm.out.trans hmr (fun b hb => .inl hb), by obtain ⟨t, rfl⟩ := HWT.out.pre; simp; omega⟩
        case measure => simp [intOf]; omega
    · have hlt' : ¬ (k : Int) < o1.2.length := by omega
      have hk1 : k = o1.2.length := by omega
      have hfin : foldM' (fun M p => sameP La Lb n p.1 p.2 M) (o1.2.zip o2.2) M1 = some M' := by
        have := hF.out
        rw [List.take_of_length_le (by simp; omega)] at this
        exact this
      have HS := Lib.hid (HSM.out.trans hfin)
      clear hfin
      go_wp2
      go_ret
      refine ⟨?_, hMm.out⟩
      rw [HS.out]
      exact ⟨rfl, hR.out⟩
end
end Go.Proofs.Ytldlolpbnfgdeaa
