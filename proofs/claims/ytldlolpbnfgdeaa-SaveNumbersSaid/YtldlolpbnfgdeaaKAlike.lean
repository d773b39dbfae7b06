/- The document's own: alike. -/
import Derived.Test.YtldlolpbnfgdeaaKLed
import Derived.Test.YtldlolpbnfgdeaaKMatch
namespace Go.Proofs.Ytldlolpbnfgdeaa
open Go Go.RowKit

theorem all_take {α : Type} (f : α → Bool) (l : List α) (k : Nat) (p : α) (h : l[k]? = some p) (h1 : (l.take k).all f = true) (h2 : f p = true) : (l.take (k + 1)).all f = true := by
  obtain ⟨hk, rfl⟩ := List.getElem?_eq_some_iff.1 h
  rw [List.take_succ_eq_append_getElem hk, List.all_append, h1]
  simp [h2]
theorem all_no {α : Type} (f : α → Bool) (l : List α) (k : Nat) (p : α) (h : l[k]? = some p) (h2 : f p = false) : l.all f = false := by
  rw [List.all_eq_false]
  exact ⟨p, List.mem_of_getElem? h, by simp [h2]⟩
theorem all_full {α : Type} (f : α → Bool) (l : List α) (k : Nat) (h : l.length ≤ k) (h1 : (l.take k).all f = true) : l.all f = true := by
  rwa [List.take_of_length_le h] at h1
theorem upd_new {κ ν : Type} [DecidableEq κ] (M : List (κ × ν)) (k : κ) (v : ν) (h : k ∉ M.map (·.1)) : upd M k v = M ++ [(k, v)] := by unfold upd; rw [if_neg h]
theorem nodup_not_take {α : Type} [DecidableEq α] (l : List α) (k : Nat) (hk : k < l.length) (h : l.Nodup) : l[k] ∉ l.take k := by
  have h1 : (l.take (k + 1)).Nodup := h.sublist (List.take_sublist _ _)
  rw [List.take_succ_eq_append_getElem hk, List.nodup_append] at h1
  exact fun h' => h1.2.2 _ h' _ (by simp) rfl
theorem zip_at {α β : Type} (l : List α) (m : List β) (k : Nat) (h1 : k < l.length) (h2 : k < m.length) : (l.zip m)[k]? = some (l[k], m[k]) := by
  rw [List.getElem?_eq_getElem (by simp; omega)]; simp
/-- A readable row's element. -/
theorem Rd.at2 {α : Type} {w : World} {cap : Nat} {a : Option Addr} {l : List α} {f : α → Value} (h : Rd w 1 l.length (.slice a l.length cap) (l.map f)) {k : Nat} (hk : k < l.length) : ∃ b off, a = some ⟨b, off, none⟩ ∧ b < w.heap.size ∧ w.cell? ⟨b, off + k, none⟩ = some (f l[k]) := by
  obtain ⟨b, off, c, rfl, hbl, hcc, hcell⟩ := h.at1 (k := k) hk
  rw [List.getElem?_map, List.getElem?_eq_getElem hk] at hcc
  simp only [Option.map_some, Option.some.injEq] at hcc
  subst hcc
  exact ⟨b, off, rfl, hbl, hcell⟩

section
variable {La Lb : List SObj} (fa : Fit La) (fb : Fit Lb)
include fa fb
set_option maxHeartbeats 4000000 in
set_option maxRecDepth 100000 in
theorem l_alike {w : World} {p1 p2 : Nat} {F1 F2 : List Nat} (v u : Value) (ra rb : List Nat) (h1 : RRep w p1 La F1) (h2 : RRep w p2 Lb F2) (hv : Rd w 1 ra.length v (ra.map u32v)) (hu : Rd w 1 rb.length u (rb.map u32v)) (hra : ∀ r ∈ ra, r < 4294967296) (hrb : ∀ r ∈ rb, r < 4294967296) (hlen : ra.length ≤ 1000) (hlen' : rb.length ≤ 1000) :
    Calls Try.prog 21 #[.pointer (some ⟨p1, 0, none⟩), v, .pointer (some ⟨p2, 0, none⟩), u] w fun e w' => e = .returned (.bool (alikeP La ra Lb rb)) ∧ Mod [] w w' := by
  obtain ⟨a, cap, rfl, hcap⟩ := hv.val
  obtain ⟨a', cap', rfl, hcap'⟩ := hu.val
  have hr1 := r_reach _ ra h1 fa hv hra hlen
  have hr2 := fun w2 (hm : Mod [] w w2) => r_reach _ rb (h2.mod hm (by simp)) fb (hu.mod0 hm) hrb hlen'
  have hxl := (reachP_good La ra).2.2
  have hyl := (reachP_good Lb rb).2.2
  have hl1 := fa.len
  have hl2 := fb.len
  by_cases hl : ra.length = rb.length
  · by_cases hxy : (reachP La ra).length = (reachP Lb rb).length
    · have hln : ((ra.length : Int) != rb.length) = false := by simp; omega
      have hln2 : (((reachP La ra).length : Int) != (reachP Lb rb).length) = false := by simp; omega
      have hal : alikeP La ra Lb rb = ((ra.zip rb).all (fun q => ledP La Lb ((reachP La ra).zip (reachP Lb rb)) q.1 q.2) && ((reachP La ra).zip (reachP Lb rb)).all (fun p => shape La Lb p.1 p.2 && ((kids La p.1).zip (kids Lb p.2)).all (fun q => ledP La Lb ((reachP La ra).zip (reachP Lb rb)) q.1 q.2))) := by
        unfold alikeP; rw [decide_eq_true hl, decide_eq_true hxy]; simp only [Bool.true_and]
      have hgx := reachP_good La ra
      have hgy := reachP_good Lb rb
      have HAL := Lib.hid hal
      have HL := Lib.hid hl
      have HXY := Lib.hid hxy
      have HGX := Lib.hid hgx
      have HGY := Lib.hid hgy
      have hmm := @run_makeMap Try.prog
      clear hal hl hxy hgx hgy
      generalize reachP La ra = X at *
      generalize reachP Lb rb = Y at *
      go_enter Try.func21, Try.ntmps21
      go_wp2_with (first | (go_at_call_of 19 (Value.pointer (some ⟨p1, 0, none⟩)); refine hr1.mono ?_; rintro e w2 ⟨u1, rfl, hO1, -, hM1⟩; obtain ⟨ax, cx, rfl, hcx, -⟩ := hO1.val) | (go_at_call_of 19 (Value.pointer (some ⟨p2, 0, none⟩)); refine (hr2 _ hM1).mono ?_; rintro e w3 ⟨u2, rfl, hO2, -, hM2⟩; obtain ⟨ay, cy, rfl, hcy, -⟩ := hO2.val))
      have hM3 : Mod [] w w3 := hM1.trans hM2 (by simp)
      have hX := hO1.rd.mod0 hM2
      have hY := hO2.rd
      clear hO1 hO2 hM1 hM2 hr1 hr2 hln hln2
      have hR0 : ∃ W0 m, W0 = w3.alloc (.map #[] 0) ∧ m = w3.heap.size ∧ MapR W0 m i64v i64v ([] : List (Int × Int)) ∧ Mod [] w3 W0 := ⟨_, _, rfl, rfl, MapR.new w3 _ _, (Mod.refl _ _).step _⟩
      obtain ⟨W0, m, hW0, hm, hR0, hM0⟩ := hR0
      rw [← hW0, ← hm]
      have HMB := Lib.hid hm
      clear hW0 hm hmm
      go_loopw [41] (fun c wr => ∃ (k : Nat), k ≤ X.length ∧ c = .int .i64 k ∧ Hid (MapR wr m i64v i64v ((X.zip Y).take k)) ∧ Hid (Mod [] w3 wr)) (fun c _ => X.length - (intOf c).toNat)
      case atStart => exact ⟨0, Nat.zero_le _, rfl, hR0, hM0⟩
      case round =>
        obtain ⟨k, hk, rfl, hMp, hMm⟩ := hrel
        by_cases hlt : k < X.length
        · have hlt' : (k : Int) < X.length := by omega
          have hlt2 : k < Y.length := by have := HXY.out; omega
          have hlt2' : (k : Int) < Y.length := by omega
          have hk0 : (0 : Int) ≤ k := by omega
          obtain ⟨b, off, rfl, hbl, hcell⟩ := (hX.mod0 hMm.out).at2 hlt
          obtain ⟨b2, off2, rfl, hbl2, hcell2⟩ := (hY.mod0 hMm.out).at2 hlt2
          unfold i64v at hcell hcell2
          have hst : (X.zip Y).take (k + 1) = (X.zip Y).take k ++ [(X[k], Y[k])] := by
            rw [List.take_succ_eq_append_getElem (by simp; omega)]; simp
          have hno : X[k] ∉ ((X.zip Y).take k).map (·.1) := by
            rw [List.map_take, zip_fst _ _ HXY.out]
            exact nodup_not_take X k hlt HGX.out.1
          have hup := upd_new _ _ Y[k] hno
          rw [← hst] at hup
          generalize X[k] = cx' at *
          generalize Y[k] = cy' at *
          go_wp2_with fail
          refine wp_plan [0, 1, 2, 3, 4, 5, 6, 7, 8] [9] (fun w' => w'.cell? ⟨b, off + k, none⟩ = some (.int .i64 cx') ∧ w'.cell? ⟨b2, off2 + k, none⟩ = some (.int .i64 cy')) (by kernel_rfl) (by kernel_rfl) ⟨hcell, hcell2⟩ ?_
          simp only [pickAll, List.filterMap_cons, List.filterMap_nil, List.getElem?_cons_succ, List.getElem?_cons_zero]
          repeat (refine' wpTake_step rfl (fun w hS => by obtain ⟨hS0, hS1⟩ := hS; go_simp; rfl) ?_; simp only [Act.put, List.setIfInBounds_toArray, List.set_cons_zero, List.set_cons_succ])
          refine wpTake_nil ?_
          refine wpRest_last (by kernel_rfl) ?_
          have hMp' : MapR wr.drew m i64v i64v ((X.zip Y).take k) := hMp.out.frame rfl
          refine wpList_update rfl _ _ _ rfl (keyInt Try.underlying3) Try.underlying42 hMp' cx' cy' rfl rfl rfl (fun w5 hr5 hm5 => ?_)
          refine wpList_nil ?_
          refine NoP_normal ?_
          rw [hup] at hr5
          have hm6 : Mod [] w3 w5 := hMm.out.drew.trans hm5 (fun b hb => by simp at hb; have := HMB.out; right; omega)
          have HR := Lib.hid hr5
          have HM := Lib.hid hm6
          clear hst hno hup hMp' hr5 hm5 hm6
          go_wp2
          go_roundw
          case rel => exact ⟨k + 1, by omega, by go_num, HR, HM⟩
          case measure => simp [intOf]; omega
        · have hlt' : ¬ (k : Int) < X.length := by omega
          obtain rfl : k = X.length := by omega
          have hMp2 := hMp.out
          rw [List.take_of_length_le (by have := HXY.out; simp; omega)] at hMp2
          have HMP := Lib.hid hMp2
          have HMW := Lib.hid (hM3.trans hMm.out (by simp))
          have HX := Lib.hid (hX.mod0 hMm.out)
          have HY := Lib.hid (hY.mod0 hMm.out)
          clear hMp2 hMp hMm hX hY hR0 hM0 hM3
          have hG0 : ∀ p ∈ X.zip Y, p.2 ≠ 0 := by
            intro p hp
            have := HGY.out.2.1 _ (List.of_mem_zip hp).2
            obtain ⟨o, ho⟩ := Option.isSome_iff_exists.1 this
            have := (getO_some ho).1
            omega
          go_wp2_with fail
          go_loopw [56] (fun c wr => ∃ (k : Nat), k ≤ ra.length ∧ c = .int .i64 k ∧ Hid (((ra.zip rb).take k).all (fun q => ledP La Lb (X.zip Y) q.1 q.2) = true) ∧ Hid (MapR wr m i64v i64v (X.zip Y)) ∧ Hid (Mod [] w wr) ∧ Hid (Rd wr 1 X.length (.slice ax X.length cx) (X.map i64v)) ∧ Hid (Rd wr 1 Y.length (.slice ay Y.length cy) (Y.map i64v))) (fun c _ => ra.length - (intOf c).toNat)
          case atStart => exact ⟨0, Nat.zero_le _, rfl, rfl, HMP, HMW, HX, HY⟩
          clear HMP HMW HX HY
          case round =>
            obtain ⟨k, hk, rfl, hA, hMp, hMw, hX, hY⟩ := hrel
            by_cases hlt : k < ra.length
            · have hlt' : (k : Int) < ra.length := by omega
              have hlt2 : k < rb.length := by have := HL.out; omega
              have hlt2' : (k : Int) < rb.length := by omega
              have hk0 : (0 : Int) ≤ k := by omega
              obtain ⟨b, off, rfl, hbl, hcell⟩ := (hv.mod0 hMw.out).at2 hlt
              obtain ⟨b2, off2, rfl, hbl2, hcell2⟩ := (hu.mod0 hMw.out).at2 hlt2
              unfold u32v at hcell hcell2
              have hz := zip_at ra rb k hlt hlt2
              have hA1 := hra _ (List.getElem_mem hlt)
              have hB1 := hrb _ (List.getElem_mem hlt2)
              generalize ra[k] = xx at *
              generalize rb[k] = yy at *
              have hled := fun j => l_led fa fb (w := wr.drewN j) xx yy hA1 hB1 ((h1.mod hMw.out (by simp)).mod (drewN_mod wr j) (by simp)) ((h2.mod hMw.out (by simp)).mod (drewN_mod wr j) (by simp)) m (X.zip Y) (hMp.out.frame rfl) hG0
              cases hle : ledP La Lb (X.zip Y) xx yy with
              | false =>
                rw [hle] at hled
                have hf := all_no (fun q => ledP La Lb (X.zip Y) q.1 q.2) _ k _ hz hle
                have HF := Lib.hid hf
                clear hz hf hle
                go_wp2_with fail
                go_quiet ((go_at_call 58; exact Calls.quiet_of_same ((hled _).mono fun e w' h => ⟨h.1, h.2.symm⟩)))
                go_wp2
                go_ret
                refine ⟨?_, hMw.out.trans (drewN_mod _ _) (by simp)⟩
                rw [HAL.out, HF.out, Bool.false_and]
                rfl
              | true =>
                rw [hle] at hled
                have ht := all_take (fun q => ledP La Lb (X.zip Y) q.1 q.2) _ k _ hz hA.out hle
                have HT := Lib.hid ht
                clear hz ht hle
                go_wp2_with fail
                go_quiet ((go_at_call 58; exact Calls.quiet_of_same ((hled _).mono fun e w' h => ⟨h.1, h.2.symm⟩)))
                clear hled
                go_wp2
                go_roundw
                case rel => exact ⟨k + 1, by omega, by go_num, HT, hMp.out.frame rfl, hMw.out.trans (drewN_mod _ _) (by simp), hX.out.mod0 (drewN_mod _ _), hY.out.mod0 (drewN_mod _ _)⟩
                case measure => simp [intOf]; omega
            · have hlt' : ¬ (k : Int) < ra.length := by omega
              have hfull := all_full _ _ k (by simp; omega) hA.out
              have HA := Lib.hid hfull
              clear hfull hA
              go_wp2_with fail
              go_loopw [75] (fun c wr2 => ∃ (k : Nat), k ≤ X.length ∧ c = .int .i64 k ∧ Hid (((X.zip Y).take k).all (fun p => shape La Lb p.1 p.2 && ((kids La p.1).zip (kids Lb p.2)).all (fun q => ledP La Lb (X.zip Y) q.1 q.2)) = true) ∧ Hid (Mod [] wr wr2)) (fun c _ => X.length - (intOf c).toNat)
              case atStart => exact ⟨0, Nat.zero_le _, rfl, rfl, Mod.refl _ _⟩
              case round =>
                obtain ⟨k3, hk3, rfl, hS, hM4⟩ := hrel
                have hMw2 := hMw.out.trans hM4.out (by simp)
                have hMp2 : MapR wr m i64v i64v (X.zip Y) := hMp.out.mod hM4.out (by simp)
                have hg1 := h1.mod hMw2 (by simp)
                have hg2 := h2.mod hMw2 (by simp)
                by_cases hlt3 : k3 < X.length
                · have hlt' : (k3 : Int) < X.length := by omega
                  have hlt2 : k3 < Y.length := by have := HXY.out; omega
                  have hlt2' : (k3 : Int) < Y.length := by omega
                  have hk0 : (0 : Int) ≤ k3 := by omega
                  obtain ⟨b, off, rfl, hbl, hcell⟩ := (hX.out.mod0 hM4.out).at2 hlt3
                  obtain ⟨b2, off2, rfl, hbl2, hcell2⟩ := (hY.out.mod0 hM4.out).at2 hlt2
                  unfold i64v at hcell hcell2
                  have hz := zip_at X Y k3 hlt3 hlt2
                  obtain ⟨o1, ho1⟩ := Option.isSome_iff_exists.1 (HGX.out.2.1 _ (List.getElem_mem hlt3))
                  obtain ⟨o2, ho2⟩ := Option.isSome_iff_exists.1 (HGY.out.2.1 _ (List.getElem_mem hlt2))
                  generalize X[k3] = xx at *
                  generalize Y[k3] = yy at *
                  have hx4 := getO_some ho1
                  have hy4 := getO_some ho2
                  have hcx := fun j => r_class (w := wr.drewN j) xx (hg1.mod (drewN_mod wr j) (by simp)) (by omega) (by omega) (by omega)
                  have hcy := fun j => r_class (w := wr.drewN j) yy (hg2.mod (drewN_mod wr j) (by simp)) (by omega) (by omega) (by omega)
                  have hfx := fun j => r_fields (w := wr.drewN j) xx (hg1.mod (drewN_mod wr j) (by simp)) (by omega) (by omega) (by omega)
                  have hfy := fun j => r_fields (w := wr.drewN j) yy (hg2.mod (drewN_mod wr j) (by simp)) (by omega) (by omega) (by omega)
                  rw [show clsO La xx = o1.1 by unfold clsO; rw [ho1]] at hcx
                  rw [show clsO Lb yy = o2.1 by unfold clsO; rw [ho2]] at hcy
                  rw [show lenO La xx = o1.2.length by unfold lenO; rw [ho1]] at hfx
                  rw [show lenO Lb yy = o2.2.length by unfold lenO; rw [ho2]] at hfy
                  have hp1 := fa.cls o1 (List.mem_of_getElem? hx4.2.2)
                  have hp2 := fb.cls o2 (List.mem_of_getElem? hy4.2.2)
                  have hw1 := fa.wd o1 (List.mem_of_getElem? hx4.2.2)
                  have hw2 := fb.wd o2 (List.mem_of_getElem? hy4.2.2)
                  have hw62 := hw1.1
                  have hsh : shape La Lb xx yy = (decide (o1.1 = o2.1) && decide (o1.2.length = o2.2.length)) := by unfold shape; rw [ho1, ho2]
                  have hk1 : kids La xx = o1.2 := by unfold kids; rw [ho1]
                  have hk2 : kids Lb yy = o2.2 := by unfold kids; rw [ho2]
                  have hgg : (shape La Lb xx yy && ((kids La xx).zip (kids Lb yy)).all (fun q => ledP La Lb (X.zip Y) q.1 q.2)) = ((decide (o1.1 = o2.1) && decide (o1.2.length = o2.2.length)) && (o1.2.zip o2.2).all (fun q => ledP La Lb (X.zip Y) q.1 q.2)) := by rw [hsh, hk1, hk2]
                  have HW1 := Lib.hid hw1
                  have HW2 := Lib.hid hw2
                  have HO1 := Lib.hid ho1
                  have HO2 := Lib.hid ho2
                  have HX4 := Lib.hid hx4
                  have HY4 := Lib.hid hy4
                  have HG1 := Lib.hid hg1
                  have HG2 := Lib.hid hg2
                  have HMP2 := Lib.hid hMp2
                  have HMW2 := Lib.hid hMw2
                  clear hw1 hw2 ho1 ho2 hsh hk1 hk2 hg1 hg2 hMp2 hMw2
                  have ec : ((o1.1 : Int) != o2.1) = !decide (o1.1 = o2.1) := by rw [Bool.eq_iff_iff]; simp
                  have el : (((o1.2.length : Nat) : Int) != (o2.2.length : Nat)) = !decide (o1.2.length = o2.2.length) := by
                    rw [Bool.eq_iff_iff]; simp; omega
                  by_cases hcl : o1.1 = o2.1
                  · rw [decide_eq_true hcl] at ec hgg
                    by_cases hll : o1.2.length = o2.2.length
                    · rw [decide_eq_true hll] at el hgg
                      simp only [Bool.true_and] at hgg
                      simp only [Bool.not_true] at ec el
                      have HGG := Lib.hid hgg
                      have HZ := Lib.hid hz
                      have HLL := Lib.hid hll
                      clear hgg hz hx4 hy4 hcl hll
                      go_wp2_with fail
                      go_quiet ((first | (go_at_call_of 59 (Value.pointer (some ⟨p1, 0, none⟩)); exact Calls.quiet_of_same ((hcx _).mono fun e w' h => ⟨h.1, h.2.symm⟩)) | (go_at_call_of 59 (Value.pointer (some ⟨p2, 0, none⟩)); exact Calls.quiet_of_same ((hcy _).mono fun e w' h => ⟨h.1, h.2.symm⟩)) | (go_at_call_of 60 (Value.pointer (some ⟨p1, 0, none⟩)); exact Calls.quiet_of_same ((hfx _).mono fun e w' h => ⟨h.1, h.2.symm⟩)) | (go_at_call_of 60 (Value.pointer (some ⟨p2, 0, none⟩)); exact Calls.quiet_of_same ((hfy _).mono fun e w' h => ⟨h.1, h.2.symm⟩))))
                      have hMd := drewN_mod wr nq
                      have hcd : (wr.drewN nq).cell? ⟨b, off + k3, none⟩ = some (.int .i64 xx) := hcell
                      have hcd2 : (wr.drewN nq).cell? ⟨b2, off2 + k3, none⟩ = some (.int .i64 yy) := hcell2
                      have HMD := Lib.hid hMd
                      clear hcx hcy hfx hfy hMd ec el hcell hcell2
                      have hbl' : b < (wr.drewN nq).heap.size := hbl
                      have hbl2' : b2 < (wr.drewN nq).heap.size := hbl2
                      generalize wr.drewN nq = w5 at *
                      go_wp2_with fail
                      go_loopw [15] (fun c wr4 => ∃ (j : Nat), j ≤ o1.2.length ∧ c = .int .i64 j ∧ Hid (((o1.2.zip o2.2).take j).all (fun q => ledP La Lb (X.zip Y) q.1 q.2) = true) ∧ Hid (Mod [] w5 wr4)) (fun c _ => o1.2.length - (intOf c).toNat)
                      case atStart => exact ⟨0, Nat.zero_le _, rfl, rfl, Mod.refl _ _⟩
                      case round =>
                        obtain ⟨j, hj, rfl, hJ, hM5⟩ := hrel
                        have hc4 : wr.cell? ⟨b, off + k3, none⟩ = some (.int .i64 xx) := (hM5.out.cell hbl' (by simp)).trans hcd
                        have hc5 : wr.cell? ⟨b2, off2 + k3, none⟩ = some (.int .i64 yy) := (hM5.out.cell hbl2' (by simp)).trans hcd2
                        have hx4 := HX4.out
                        have hy4 := HY4.out
                        have hMq := HMD.out.trans hM5.out (by simp)
                        have hr4 := HG1.out.mod hMq (by simp)
                        have hr5 := HG2.out.mod hMq (by simp)
                        have hf4 := r_fields (w := wr) xx hr4 (by omega) (by omega) (by omega)
                        rw [show lenO La xx = o1.2.length by unfold lenO; rw [HO1.out]] at hf4
                        have hmq : MapR wr m i64v i64v (X.zip Y) := HMP2.out.mod hMq (by simp)
                        have HMQ := Lib.hid hMq
                        by_cases hjlt : j < o1.2.length
                        · have hjlt' : (j : Int) < o1.2.length := by omega
                          have hjlt2 : j < o2.2.length := by have := HLL.out; omega
                          have hg4 := r_get (w := wr) xx (j : Int) hr4 (by omega) (by omega) (by omega) (fun o ho => (fa.wd o ho).1)
                          have hg5 := r_get (w := wr) yy (j : Int) hr5 (by omega) (by omega) (by omega) (fun o ho => (fb.wd o ho).1)
                          rw [show fldO La xx (j : Int) = some o1.2[j] by unfold fldO; rw [HO1.out]; simp [hjlt]] at hg4
                          rw [show fldO Lb yy (j : Int) = some o2.2[j] by unfold fldO; rw [HO2.out]; simp [hjlt2]] at hg5
                          unfold getVal u32v at hg4 hg5
                          have hA1 := HW1.out.2 _ (List.getElem_mem hjlt)
                          have hB1 := HW2.out.2 _ (List.getElem_mem hjlt2)
                          have hz2 := zip_at o1.2 o2.2 j hjlt hjlt2
                          generalize o1.2[j] = fx at *
                          generalize o2.2[j] = fy at *
                          have hled := l_led fa fb (w := wr) fx fy hA1 hB1 hr4 hr5 m (X.zip Y) hmq hG0
                          cases hle : ledP La Lb (X.zip Y) fx fy with
                          | false =>
                            rw [hle] at hled
                            have hf := all_no (fun q => ledP La Lb (X.zip Y) q.1 q.2) _ j _ hz2 hle
                            have hf2 := all_no (fun p => shape La Lb p.1 p.2 && ((kids La p.1).zip (kids Lb p.2)).all (fun q => ledP La Lb (X.zip Y) q.1 q.2)) _ k3 _ HZ.out (HGG.out.trans hf)
                            have HF := Lib.hid hf2
                            clear hz2 hf hf2 hle hx4 hy4 hMq hr4 hr5 hmq
                            go_wp2_with (first | (go_at_call 60; refine hf4.mono ?_; rintro e w' ⟨rfl, rfl⟩) | (go_at_call_of 61 (Value.pointer (some ⟨p1, 0, none⟩)); refine hg4.mono ?_; rintro e w' ⟨rfl, rfl⟩) | (go_at_call_of 61 (Value.pointer (some ⟨p2, 0, none⟩)); refine hg5.mono ?_; rintro e w' ⟨rfl, rfl⟩) | (go_at_call 58; refine hled.mono ?_; rintro e w' ⟨rfl, rfl⟩))
                            go_ret
                            refine ⟨?_, HMW2.out.trans HMQ.out (by simp)⟩
                            rw [HAL.out, HF.out, Bool.and_false]
                            rfl
                          | true =>
                            rw [hle] at hled
                            have ht := all_take (fun q => ledP La Lb (X.zip Y) q.1 q.2) _ j _ hz2 hJ.out hle
                            have HT := Lib.hid ht
                            clear hz2 ht hle hx4 hy4 hMq hr4 hr5 hmq
                            go_wp2_with (first | (go_at_call 60; refine hf4.mono ?_; rintro e w' ⟨rfl, rfl⟩) | (go_at_call_of 61 (Value.pointer (some ⟨p1, 0, none⟩)); refine hg4.mono ?_; rintro e w' ⟨rfl, rfl⟩) | (go_at_call_of 61 (Value.pointer (some ⟨p2, 0, none⟩)); refine hg5.mono ?_; rintro e w' ⟨rfl, rfl⟩) | (go_at_call 58; refine hled.mono ?_; rintro e w' ⟨rfl, rfl⟩))
                            clear hled hg4 hg5
                            go_roundw
                            case rel => exact ⟨j + 1, by omega, by go_num, HT, hM5⟩
                            case measure => simp [intOf]; omega
                        · have hjlt' : ¬ (j : Int) < o1.2.length := by omega
                          have hfull := all_full _ _ j (by simp; omega) hJ.out
                          have ht := all_take (fun p => shape La Lb p.1 p.2 && ((kids La p.1).zip (kids Lb p.2)).all (fun q => ledP La Lb (X.zip Y) q.1 q.2)) _ k3 _ HZ.out hS.out (HGG.out.trans hfull)
                          have HT := Lib.hid ht
                          have HM6 := Lib.hid (hM4.out.trans HMQ.out (by simp))
                          clear hfull ht hx4 hy4 hMq hr4 hr5 hmq
                          go_wp2_with (first | (go_at_call 60; refine hf4.mono ?_; rintro e w' ⟨rfl, rfl⟩) | (go_at_call_of 61 (Value.pointer (some ⟨p1, 0, none⟩)); refine hg4.mono ?_; rintro e w' ⟨rfl, rfl⟩) | (go_at_call_of 61 (Value.pointer (some ⟨p2, 0, none⟩)); refine hg5.mono ?_; rintro e w' ⟨rfl, rfl⟩) | (go_at_call 58; refine hled.mono ?_; rintro e w' ⟨rfl, rfl⟩))
                          go_roundw
                          case rel => exact ⟨k3 + 1, by omega, by go_num, HT, HM6⟩
                          case measure => simp [intOf]; omega
                    · rw [decide_eq_false hll] at el hgg
                      simp only [Bool.and_false, Bool.false_and] at hgg
                      simp only [Bool.not_true, Bool.not_false] at ec el
                      have hf2 := all_no (fun p => shape La Lb p.1 p.2 && ((kids La p.1).zip (kids Lb p.2)).all (fun q => ledP La Lb (X.zip Y) q.1 q.2)) _ k3 _ hz hgg
                      have HF := Lib.hid hf2
                      clear hgg hz hx4 hy4 hcl hll hf2
                      go_wp2_with fail
                      go_quiet ((first | (go_at_call_of 59 (Value.pointer (some ⟨p1, 0, none⟩)); exact Calls.quiet_of_same ((hcx _).mono fun e w' h => ⟨h.1, h.2.symm⟩)) | (go_at_call_of 59 (Value.pointer (some ⟨p2, 0, none⟩)); exact Calls.quiet_of_same ((hcy _).mono fun e w' h => ⟨h.1, h.2.symm⟩)) | (go_at_call_of 60 (Value.pointer (some ⟨p1, 0, none⟩)); exact Calls.quiet_of_same ((hfx _).mono fun e w' h => ⟨h.1, h.2.symm⟩)) | (go_at_call_of 60 (Value.pointer (some ⟨p2, 0, none⟩)); exact Calls.quiet_of_same ((hfy _).mono fun e w' h => ⟨h.1, h.2.symm⟩))))
                      go_wp2
                      go_ret
                      refine ⟨?_, HMW2.out.trans (drewN_mod _ _) (by simp)⟩
                      rw [HAL.out, HF.out, Bool.and_false]
                      rfl
                  · rw [decide_eq_false hcl] at ec hgg
                    simp only [Bool.false_and] at hgg
                    simp only [Bool.not_false] at ec
                    have hf2 := all_no (fun p => shape La Lb p.1 p.2 && ((kids La p.1).zip (kids Lb p.2)).all (fun q => ledP La Lb (X.zip Y) q.1 q.2)) _ k3 _ hz hgg
                    have HF := Lib.hid hf2
                    clear hgg hz hx4 hy4 hcl hf2 el
                    go_wp2_with fail
                    go_quiet ((first | (go_at_call_of 59 (Value.pointer (some ⟨p1, 0, none⟩)); exact Calls.quiet_of_same ((hcx _).mono fun e w' h => ⟨h.1, h.2.symm⟩)) | (go_at_call_of 59 (Value.pointer (some ⟨p2, 0, none⟩)); exact Calls.quiet_of_same ((hcy _).mono fun e w' h => ⟨h.1, h.2.symm⟩)) | (go_at_call_of 60 (Value.pointer (some ⟨p1, 0, none⟩)); exact Calls.quiet_of_same ((hfx _).mono fun e w' h => ⟨h.1, h.2.symm⟩)) | (go_at_call_of 60 (Value.pointer (some ⟨p2, 0, none⟩)); exact Calls.quiet_of_same ((hfy _).mono fun e w' h => ⟨h.1, h.2.symm⟩))))
                    go_wp2
                    go_ret
                    refine ⟨?_, HMW2.out.trans (drewN_mod _ _) (by simp)⟩
                    rw [HAL.out, HF.out, Bool.and_false]
                    rfl
                · have hlt' : ¬ (k3 : Int) < X.length := by omega
                  have hfull := all_full _ _ k3 (by simp; omega) hS.out
                  have HF := Lib.hid hfull
                  have HMW2 := Lib.hid hMw2
                  clear hfull hMw2 hMp2 hg1 hg2
                  go_wp2
                  go_ret
                  refine ⟨?_, HMW2.out⟩
                  rw [HAL.out, HA.out, HF.out]
                  rfl
    · have hln : ((ra.length : Int) != rb.length) = false := by simp; omega
      have hln2 : (((reachP La ra).length : Int) != (reachP Lb rb).length) = true := by simp; omega
      have hal : alikeP La ra Lb rb = false := by unfold alikeP; simp [hxy]
      have HAL := Lib.hid hal
      clear hal hl hxy
      generalize reachP La ra = X at *
      generalize reachP Lb rb = Y at *
      go_enter Try.func21, Try.ntmps21
      go_wp2_with (first | (go_at_call_of 19 (Value.pointer (some ⟨p1, 0, none⟩)); refine hr1.mono ?_; rintro e w2 ⟨u1, rfl, hO1, -, hM1⟩; obtain ⟨ax, cx, rfl, hcx, -⟩ := hO1.val) | (go_at_call_of 19 (Value.pointer (some ⟨p2, 0, none⟩)); refine (hr2 _ hM1).mono ?_; rintro e w3 ⟨u2, rfl, hO2, -, hM2⟩; obtain ⟨ay, cy, rfl, hcy, -⟩ := hO2.val))
      go_ret
      exact ⟨by rw [HAL.out]; rfl, hM1.trans hM2 (by simp)⟩
  · have hln : ((ra.length : Int) != rb.length) = true := by simp; omega
    have hal : alikeP La ra Lb rb = false := by unfold alikeP; simp [hl]
    have HAL := Lib.hid hal
    clear hal hl
    go_enter Try.func21, Try.ntmps21
    go_wp2_with (first | (go_at_call_of 19 (Value.pointer (some ⟨p1, 0, none⟩)); refine hr1.mono ?_; rintro e w2 ⟨u1, rfl, hO1, -, hM1⟩; obtain ⟨ax, cx, rfl, hcx, -⟩ := hO1.val) | (go_at_call_of 19 (Value.pointer (some ⟨p2, 0, none⟩)); refine (hr2 _ hM1).mono ?_; rintro e w3 ⟨u2, rfl, hO2, -, hM2⟩; obtain ⟨ay, cy, rfl, hcy, -⟩ := hO2.val))
    go_ret
    exact ⟨by rw [HAL.out]; rfl, hM1.trans hM2 (by simp)⟩
end
end Go.Proofs.Ytldlolpbnfgdeaa
