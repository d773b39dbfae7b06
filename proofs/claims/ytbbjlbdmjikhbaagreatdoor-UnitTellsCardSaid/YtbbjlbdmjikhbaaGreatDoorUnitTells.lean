/- 'UnitTells' returns true for every argument, and each argument reads as it did. -/
import Derived.Test.YtbbjlbdmjikhbaaGreatDoorRows
import Derived.Test.YtbbjlbdmjikhbaaGreatDoorCards
import Derived.Test.YtbbjlbdmjikhbaaGreatDoorTie
import Derived.Test.YtbbjlbdmjikhbaaGreatDoorKUniI
import Derived.WalkKit
import Derived.ProofKit
import Derived.OpenShut
import Derived.SizedLaws
import Derived.ChangeSame
import Derived.ShutString
import Derived.ChangeOld
import Derived.Below
import Derived.MakeChecks
import Derived.Handed
import Derived.ChangeMaps5
import Derived.LaidMore
import Derived.Lay
import Derived.SevenTiedAt
namespace Go.Proofs.YtbbjlbdmjikhbaaGreatDoor.unitTellsDone
open Go.ChangeShapes Go.WideShapes Go.ChangeAt Go.RowKit Go.Proofs.YtbbjlbdmjikhbaaGreatDoor.AA
open Go.ChangeMaps (open_string shut_string)
set_option linter.unusedVariables false

theorem laidOut : laidOutB Tryz.prog = true := by kernel_rfl
theorem own : ownKnob Tryz.prog.godebug = none := by kernel_rfl
set_option maxRecDepth 100000 in
theorem lifted (os : Os) (started : os.Started) (H : Type) (enc : TypeId × Value → H) :
    ReturnsInHanded {} Tryz.checked os 4 .any (fun w args => (Rows.unitTellsSpec.pre enc Tryz.prog Tryz.f4 Rows.unitTellsRow.domain false w args ∧ laidMetH Tryz.prog Rows.unitTellsRow.laid w) ∧ sizedMet enc Tryz.prog Tryz.f4 (OpenSpec.ofChange Rows.unitTellsSpec) false w args) (Rows.unitTellsSpec.post enc Tryz.prog Tryz.f4 false true false false) := by
  refine returnsInHanded_of_change_and (C := Tryz.checked) (X := fun w _ => laidMetH Tryz.prog Rows.unitTellsRow.laid w) (fun _ _ _ hh h => h.of_heap hh) own started (by kernel_rfl) Tryz.func4
    (ChangeSpec.witness_shaped (enc := enc) (C := Tryz.checked) (os := os) (X := fun w _ => laidMetH Tryz.prog Rows.unitTellsRow.laid w) false (World.laidAll Tryz.prog os Rows.unitTellsRow.laid) #[.slice none 0 0, .int .i64 0, .int .i64 0, .int .i64 0, .agg #[.slice none 0 0, .slice none 0 0, .slice none 0 0, .slice none 0 0, .int .i64 0], .int .i64 0, .int .i64 0] 8 (World.laidAll_os _ _ _)
      (World.shaped_of_ZipB (by kernel_rfl) (by kernel_rfl)) (by kernel_rfl) (by kernel_rfl) (by kernel_rfl)
      (by rw [MakeChecks.laidMetH_plain _ _ _ (by kernel_rfl)]; exact laidMet_laidAll _ (by kernel_rfl) (by kernel_rfl))) ?_
  intro W base args ds gs before hval0 hW hcnd hsz0 hL _
  have hval : ∀ (j : Nat) t v, Tryz.f4.params[j]? = some t → args[j]? = some v → Value.okWide Tryz.prog W .any base t v := hval0
  have hsz : (DataW.weightsEach Tryz.prog (Tryz.f4.params.toList ++ Rows.unitTellsSpec.plain.varTypes Tryz.prog) (ds ++ gs)).all (· ≤ reachBytes) = true := hsz0
  have hW' := hW
  obtain ⟨p, q, hA0, hV, rfl, hfz, hnd⟩ := hW
  have hA : DataW.TrodAll enc Tryz.prog W 0 (fun _ => true) true Tryz.f4.params.toList args.toList ds p := hA0
  rw [Tryz.params4] at hA hval hsz
  obtain ⟨v0, vs0, d0, ds0, p0, q0, hargs, rfl, rfl, h0, r0⟩ := trodAll_cons hA
  obtain ⟨v1, vs1, d1, ds1, p1, q1, rfl, rfl, rfl, h1, r1⟩ := trodAll_cons r0
  obtain ⟨v2, vs2, d2, ds2, p2, q2, rfl, rfl, rfl, h2, r2⟩ := trodAll_cons r1
  obtain ⟨v3, vs3, d3, ds3, p3, q3, rfl, rfl, rfl, h3, r3⟩ := trodAll_cons r2
  obtain ⟨v4, vs4, d4, ds4, p4, q4, rfl, rfl, rfl, h4, r4⟩ := trodAll_cons r3
  obtain ⟨v5, vs5, d5, ds5, p5, q5, rfl, rfl, rfl, h5, r5⟩ := trodAll_cons r4
  obtain ⟨v6, vs6, d6, ds6, p6, q6, rfl, rfl, rfl, h6, r6⟩ := trodAll_cons r5
  obtain ⟨rfl, rfl, rfl⟩ := trodAll_nil r6
  obtain rfl : args = #[v0, v1, v2, v3, v4, v5, v6] := by cases args; simp_all
  obtain ⟨rfl, rfl⟩ := trodVars_none hV
  obtain ⟨a0, len0, cap0, rfl⟩ := okWide_slice Tryz.underlying29 (hval 0 29 v0 rfl rfl)
  have k0 := h0
  have lt0 : ∀ x ∈ p0, x.block < W.heap.size := by obtain ⟨m, hm⟩ := k0; exact DataW.trod_lt m _ _ _ hm
  have tp0 : TP enc Tryz.prog W 29 1 [.slice a0 len0 cap0] := by obtain ⟨m, hm⟩ := k0; exact ⟨rfl, true, m, _, by simpa [Value.cells] using hm⟩
  obtain ⟨n1, rfl, rfl, rfl, wb1⟩ := open_int Tryz.underlying3 (hval 1 3 v1 rfl rfl) h1
  obtain ⟨n2, rfl, rfl, rfl, wb2⟩ := open_int Tryz.underlying3 (hval 2 3 v2 rfl rfl) h2
  obtain ⟨n3, rfl, rfl, rfl, wb3⟩ := open_int Tryz.underlying3 (hval 3 3 v3 rfl rfl) h3
  have fm4 := hval 4 27 v4 rfl rfl
  have k4 := h4
  have lt4 : ∀ x ∈ p4, x.block < W.heap.size := by obtain ⟨m, hm⟩ := k4; exact DataW.trod_lt m _ _ _ hm
  have tw4 : TW enc Tryz.prog W 27 5 v4.cells.toList := by obtain ⟨m, hm⟩ := k4; exact ⟨by obtain ⟨_, _, -, -, h, -⟩ := DataW.trod_struct Tryz.underlying27 hm; exact h.trans (by kernel_rfl), true, m, _, hm, all_sub hsz fun n hn => DataW.weights_mem_each (j := 4) rfl rfl n hn⟩
  obtain ⟨n5, rfl, rfl, rfl, wb5⟩ := open_int Tryz.underlying3 (hval 5 3 v5 rfl rfl) h5
  obtain ⟨n6, rfl, rfl, rfl, wb6⟩ := open_int Tryz.underlying3 (hval 6 3 v6 rfl rfl) h6
  clear hA0 hval0
  refine (AA.tells_call W tp0 wb1 wb2 wb3 tw4 wb5 wb6).mono fun e W' ⟨he, k⟩ => ?_
  subst he
  have bel : Below W.heap.size W W' := ⟨k.os, k.tape, k.output, k.size, fun j hj => k.block j hj hj⟩
  exact ⟨_, rfl, _, _, _, [], _, [], hW', trodAll_mk1 (shut_bool Tryz.underlying4 _), (trodAll_cons_mk (Below.trod laidOut (by kernel_rfl) (of_decide_eq_true (by kernel_rfl)) k0 bel lt0) (trodAll_cons_mk (shut_int Tryz.underlying3 wb1) (trodAll_cons_mk (shut_int Tryz.underlying3 wb2) (trodAll_cons_mk (shut_int Tryz.underlying3 wb3) (trodAll_cons_mk (Below.trod laidOut (by kernel_rfl) (of_decide_eq_true (by kernel_rfl)) k4 bel lt4) (trodAll_cons_mk (shut_int Tryz.underlying3 wb5) (trodAll_cons_mk (shut_int Tryz.underlying3 wb6) trodAll_mk0))))))), rfl, bel.frame _, fun h => by cases h⟩

theorem over : Rows.unitTellsRow.holds Tryz.pinned (OpenSpec.ofChange Rows.unitTellsSpec) :=
  OpenClaim.holds_of_wide 4 Tryz.f4 rfl rfl rfl rfl rfl rfl rfl ⟨rfl, rfl, rfl, rfl, rfl⟩ rfl rfl rfl rfl rfl (by kernel_rfl) Tryz.func4 (by kernel_rfl)
    (of_decide_eq_true (by kernel_rfl)) (by unfold Func.isWrapper; first | (rw [if_pos (by decide +kernel)]; kernel_rfl) | (rw [if_neg (by decide +kernel)]; exact ⟨rfl, rfl⟩))
    (fun os started H enc _ => lifted os started H enc)

/-- The statement. -/
theorem proved : Rows.UnitTellsCardSaid :=
  Claim7.holds_tied_plain_at .later [] [.data, .pinned] true (true, "efc80c2bf196e78a070c36be3a71df6c448b2a4b3642bded1f468726a83c0bab") false over (fun _ h => by cases h) (by kernel_rfl) (fun _ h => by cases h) unitTells_row_tie rfl ⟨rfl, rfl⟩ (by kernel_rfl) rfl
    (fun f fn hf hfn => by
      obtain rfl : f = 4 := Option.some.inj ((show Tryz.prog.funcNamed "treadwheel/treadwheellaw15.UnitTells" = some 4 by kernel_rfl).symm.trans hf) |>.symm
      obtain rfl : fn = Tryz.f4 := (Option.some.inj (Tryz.func4.symm.trans hfn)).symm
      exact ⟨by kernel_rfl, fun j t ht => by
        rw [Tryz.params4] at ht
        have hm : t ∈ [29, 3, 3, 3, 27, 3, 3] := by simpa using Array.mem_of_getElem? ht
        have hall : ([29, 3, 3, 3, 27, 3, 3].all fun u => !Tryz.prog.wantsStandIn u) = true := by kernel_rfl
        exact (show Tryz.prog.wantsStandIn t = false by simpa using List.all_eq_true.1 hall t hm)⟩)
    (by kernel_rfl)
#print axioms proved
end Go.Proofs.YtbbjlbdmjikhbaaGreatDoor.unitTellsDone
