/- save.Same. -/
import Derived.Test.YtldlolpbnfgdeaaKMatchB
namespace Go.Proofs.Ytldlolpbnfgdeaa
open Go Go.RowKit

section
variable {La Lb : List SObj} (fa : Fit La) (fb : Fit Lb)
include fa fb
set_option maxHeartbeats 2000000 in
set_option maxRecDepth 100000 in
theorem s_same {w : World} {p1 p2 : Nat} {F1 F2 : List Nat} (v u : Value) (ra rb : List Nat) (h1 : SRep w p1 La F1) (h2 : SRep w p2 Lb F2) (hv : Rd w 1 ra.length v (ra.map u32v)) (hu : Rd w 1 rb.length u (rb.map u32v)) (hra : ∀ r ∈ ra, r < 4294967296) (hrb : ∀ r ∈ rb, r < 4294967296) (hlen : ra.length ≤ 1000) (hlen' : rb.length ≤ 1000) :
    Calls Try.prog 20 #[.iface 25 (.pointer (some ⟨p1, 0, none⟩)), v, .iface 25 (.pointer (some ⟨p2, 0, none⟩)), u] w fun e w' => e = .returned (.bool (sameAllP La ra Lb rb)) ∧ Mod [] w w' := by
  obtain ⟨a, cap, rfl, hcap⟩ := hv.val
  obtain ⟨a', cap', rfl, hcap'⟩ := hu.val
  by_cases hl : ra.length = rb.length
  · have hln : ((ra.length : Int) != rb.length) = false := by simp; omega
    have hmm := @run_makeMap Try.prog
    have hsa : sameAllP La ra Lb rb = (foldM' (fun M p => sameP La Lb (fuelP La Lb) p.1 p.2 M) (ra.zip rb) []).isSome := by unfold sameAllP; simp [hl]
    have HSA := Lib.hid hsa
    have HL := Lib.hid hl
    clear hl hsa
    go_enter Try.func20, Try.ntmps20
    go_wp2
    have hR0 : ∃ W0 q mm mt mk, W0 = ((((w.alloc (.map #[] 0)).alloc (.map #[] 0)).alloc (.map #[] 0)).alloc (.cells #[.iface 25 (.pointer (some ⟨p1, 0, none⟩)), .iface 25 (.pointer (some ⟨p2, 0, none⟩)), .map (some w.heap.size), .map (some (w.heap.size + 1)), .map (some (w.heap.size + 2))] 99)) ∧ q = w.heap.size + 3 ∧ mm = w.heap.size ∧ mt = w.heap.size + 1 ∧ mk = w.heap.size + 2 ∧
        MatchR W0 q p1 p2 La Lb F1 F2 mm mt mk [] ∧ Mod [] w W0 := by
      refine ⟨_, _, _, _, _, rfl, rfl, rfl, rfl, rfl, ?_, (((Mod.refl _ _).step _).step _).step _ |>.step _⟩
      have hm := ((((Mod.refl [] w).step (.map #[] 0)).step (.map #[] 0)).step (.map #[] 0)).step (.cells #[.iface 25 (.pointer (some ⟨p1, 0, none⟩)), .iface 25 (.pointer (some ⟨p2, 0, none⟩)), .map (some w.heap.size), .map (some (w.heap.size + 1)), .map (some (w.heap.size + 2))] 99)
      refine ⟨h1.mod hm (by simp), h2.mod hm (by simp), ?_, ?_, ?_, ?_, ?_, ?_, ?_⟩
      · have := heap_alloc_new (((w.alloc (.map #[] 0)).alloc (.map #[] 0)).alloc (.map #[] 0)) (.cells #[.iface 25 (.pointer (some ⟨p1, 0, none⟩)), .iface 25 (.pointer (some ⟨p2, 0, none⟩)), .map (some w.heap.size), .map (some (w.heap.size + 1)), .map (some (w.heap.size + 2))] 99)
        simpa using this
      · refine (MapR.new w _ _).mod (F := []) ?_ (by simp)
        exact ((Mod.refl _ _).step _ |>.step _).step _
      · have := (MapR.new (w.alloc (.map #[] 0)) i64v i64v)
        simp only [World.size_alloc] at this
        refine this.mod (F := []) ?_ (by simp)
        exact ((Mod.refl _ _).step _).step _
      · have := (MapR.new ((w.alloc (.map #[] 0)).alloc (.map #[] 0)) i64v i64v)
        simp only [World.size_alloc] at this
        refine this.mod (F := []) ?_ (by simp)
        exact (Mod.refl _ _).step _
      · intro b hb; have := h1.lt b hb; simp; omega
      · intro b hb; have := h2.lt b hb; simp; omega
      · simp
    obtain ⟨W0, q, mm, mt, mk, hW0, hq, hmm0, hmt, hmk, hR0, hM0⟩ := hR0
    rw [← hW0, ← hq]
    have hge : w.heap.size ≤ mm ∧ w.heap.size ≤ mt ∧ w.heap.size ≤ mk := by omega
    have HGE := Lib.hid hge
    have HR0 := Lib.hid hR0
    have HM0 := Lib.hid hM0
    clear hW0 hq hmm hmm0 hmt hmk hge hR0 hM0 hln
    go_loopw [33] (fun c wr => ∃ (k : Nat) (M : List (Int × Int)), k ≤ ra.length ∧ c = .int .i64 k ∧ Hid (foldM' (fun M p => sameP La Lb (fuelP La Lb) p.1 p.2 M) ((ra.zip rb).take k) [] = some M) ∧ Hid (MatchR wr q p1 p2 La Lb F1 F2 mm mt mk M) ∧ Hid (Wf La Lb M) ∧ Hid (Mod [] w wr)) (fun c _ => ra.length - (intOf c).toNat)
    case atStart => exact ⟨0, _, Nat.zero_le _, rfl, rfl, HR0, wf_nil, HM0⟩
    case round =>
      obtain ⟨k, M, hk, rfl, hF, hR, hWf, hMm⟩ := hrel
      by_cases hlt : k < ra.length
      · have hlt' : (k : Int) < ra.length := by omega
        have hlt2 : k < rb.length := by have := HL.out; omega
        have hlt2' : (k : Int) < rb.length := by omega
        have hk0 : (0 : Int) ≤ k := by omega
        obtain ⟨b, off, c, rfl, hbl, hcc, hcell⟩ := (hv.mod0 hMm.out).at1 (k := k) hlt
        rw [List.getElem?_map, List.getElem?_eq_getElem hlt] at hcc
        simp only [Option.map_some, Option.some.injEq] at hcc
        subst hcc
        obtain ⟨b2, off2, c2, rfl, hbl2, hcc2, hcell2⟩ := (hu.mod0 hMm.out).at1 (k := k) hlt2
        rw [List.getElem?_map, List.getElem?_eq_getElem hlt2] at hcc2
        simp only [Option.map_some, Option.some.injEq] at hcc2
        subst hcc2
        have hbw : b < w.heap.size := by
          obtain ⟨b', off', c', he, hb', -, -⟩ := hv.at1 (k := k) hlt
          cases he; exact hb'
        have hbw2 : b2 < w.heap.size := by
          obtain ⟨b', off', c', he, hb', -, -⟩ := hu.at1 (k := k) hlt2
          cases he; exact hb'
        have hX := hra _ (List.getElem_mem hlt)
        have hY := hrb _ (List.getElem_mem hlt2)
        have hz : (ra.zip rb)[k]? = some (ra[k], rb[k]) := by
          rw [List.getElem?_eq_getElem (by have := HL.out; simp; omega)]; simp
        have hft := foldM'_take (fun M p => sameP La Lb (fuelP La Lb) p.1 p.2 M) _ [] k _ hz
        rw [hF.out] at hft
        simp only [Option.bind_some] at hft
        have hrec := same_any fa fb (fuelP La Lb) ra[k] rb[k] q p1 p2 F1 F2 mm mt mk M wr.drew hX hY (hR.out.drew 1) hWf.out (by unfold fuelP; omega)
        unfold SamePost at hrec
        clear hz
        generalize ra[k] = X at *
        generalize rb[k] = Y at *
        unfold u32v at hcell hcell2
        have hkeep : ∀ w2, Mod [mm, mt, mk] wr.drew w2 → w2.cell? ⟨b, off + k, none⟩ = some (.int .u32 (X : Int)) ∧ w2.cell? ⟨b2, off2 + k, none⟩ = some (.int .u32 (Y : Int)) := by
          intro w2 hm2
          obtain ⟨g1, g2, g3⟩ := HGE.out
          exact ⟨(hm2.cell hbl (by simp; omega)).trans hcell, (hm2.cell hbl2 (by simp; omega)).trans hcell2⟩
        have hMod : ∀ w2, Mod [mm, mt, mk] wr.drew w2 → Mod [] w w2 := by
          intro w2 hm2
          obtain ⟨g1, g2, g3⟩ := HGE.out
          exact hMm.out.drew.trans hm2 (fun b hb => by simp at hb; right; omega)
        cases hs : sameP La Lb (fuelP La Lb) X Y M with
        | none =>
          rw [hs] at hrec hft
          simp only at hrec
          have hfin := foldM'_none _ _ _ _ hft
          have HS := Lib.hid (HSA.out.trans (by rw [hfin]))
          clear hft hfin hs
          go_wp2_with fail
          refine wp_plan [0, 1, 2, 3, 4, 5, 6, 7, 8] [9, 10] (fun w' => w'.cell? ⟨b, off + k, none⟩ = some (.int .u32 (X : Int)) ∧ w'.cell? ⟨b2, off2 + k, none⟩ = some (.int .u32 (Y : Int))) (by kernel_rfl) (by kernel_rfl) ⟨hcell, hcell2⟩ ?_
          simp only [pickAll, List.filterMap_cons, List.filterMap_nil, List.getElem?_cons_succ, List.getElem?_cons_zero]
          repeat (refine' wpTake_step rfl (fun w hS => by obtain ⟨hS0, hS1⟩ := hS; go_simp; rfl) ?_; simp only [Act.put, List.setIfInBounds_toArray, List.set_cons_zero, List.set_cons_succ])
          refine wpTake_nil ?_
          refine wpRest_one (by kernel_rfl) (fun K hK => ?_)
          go_wp2_with (go_at_call 57; refine hrec.mono ?_; rintro e w2 ⟨rfl, hmr⟩)
          refine hK _ _ (hkeep _ hmr) ?_
          clear hK K
          refine wpRest_one (by kernel_rfl) (fun K hK => ?_)
          go_wp2
          refine hK _ _ (hkeep _ hmr) ?_
          clear hK K
          unfold wpRest
          refine NoP_normal ?_
          go_wp2
          go_ret
          refine ⟨?_, hMod _ hmr⟩
          rw [HS.out]
          rfl
        | some M2 =>
          rw [hs] at hrec hft
          simp only at hrec
          have hwent := sameP_went _ X Y M M2 hWf.out hs
          have HFT := Lib.hid hft
          have HWT := Lib.hid hwent
          clear hft hwent hs
          go_wp2_with fail
          refine wp_plan [0, 1, 2, 3, 4, 5, 6, 7, 8] [9, 10] (fun w' => w'.cell? ⟨b, off + k, none⟩ = some (.int .u32 (X : Int)) ∧ w'.cell? ⟨b2, off2 + k, none⟩ = some (.int .u32 (Y : Int))) (by kernel_rfl) (by kernel_rfl) ⟨hcell, hcell2⟩ ?_
          simp only [pickAll, List.filterMap_cons, List.filterMap_nil, List.getElem?_cons_succ, List.getElem?_cons_zero]
          repeat (refine' wpTake_step rfl (fun w hS => by obtain ⟨hS0, hS1⟩ := hS; go_simp; rfl) ?_; simp only [Act.put, List.setIfInBounds_toArray, List.set_cons_zero, List.set_cons_succ])
          refine wpTake_nil ?_
          refine wpRest_one (by kernel_rfl) (fun K hK => ?_)
          go_wp2_with (go_at_call 57; refine hrec.mono ?_; rintro e w2 ⟨⟨rfl, hr2⟩, hmr⟩)
          refine hK _ _ (hkeep _ hmr) ?_
          clear hK K
          refine wpRest_one (by kernel_rfl) (fun K hK => ?_)
          go_wp2
          refine hK _ _ (hkeep _ hmr) ?_
          clear hK K
          unfold wpRest
          refine NoP_normal ?_
          have HMR := Lib.hid (hMod _ hmr)
          clear hkeep hMod hrec hmr
          go_wp2
          go_roundw
          case rel =>
            exact ⟨k + 1, M2, by omega, by go_num, HFT, hr2, HWT.out.wf, HMR⟩
          case measure => simp [intOf]; omega
      · have hlt' : ¬ (k : Int) < ra.length := by omega
        have hfin : foldM' (fun M p => sameP La Lb (fuelP La Lb) p.1 p.2 M) (ra.zip rb) [] = some M := by
          have := hF.out
          rw [List.take_of_length_le (by have := HL.out; simp; omega)] at this
          exact this
        have HS := Lib.hid (HSA.out.trans (by rw [hfin]))
        clear hfin
        go_wp2
        go_ret
        refine ⟨?_, hMm.out⟩
        rw [HS.out]
        rfl
  · have hln : ((ra.length : Int) != rb.length) = true := by simp; omega
    have hs : sameAllP La ra Lb rb = false := by unfold sameAllP; simp [hl]
    rw [hs]
    go_enter Try.func20, Try.ntmps20
    go_wp2
    go_ret
    exact ⟨rfl, Mod.refl _ _⟩
end
end Go.Proofs.Ytldlolpbnfgdeaa
