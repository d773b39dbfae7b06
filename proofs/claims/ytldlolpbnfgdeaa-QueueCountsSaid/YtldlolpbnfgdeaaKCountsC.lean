/- The queue's counts: the call. -/
import Derived.Test.YtldlolpbnfgdeaaKCountsB
namespace Go.Proofs.Ytldlolpbnfgdeaa.AA
open Go Go.RowKit Go.Proofs.Ytldlolpbnfgdeaa
set_option maxRecDepth 100000
theorem rest_ok : ∀ a : Nat, a < 13 → ∀ b : Nat, b < 13 → okRest a b = true := by
  have key : ∀ a : Nat, a < 13 → (List.range 13).all (okRest a) = true := by
    intro a ha
    match a, ha with
    | 0, _ => exact rest0
    | 1, _ => exact rest1
    | 2, _ => exact rest2
    | 3, _ => exact rest3
    | 4, _ => exact rest4
    | 5, _ => exact rest5
    | 6, _ => exact rest6
    | 7, _ => exact rest7
    | 8, _ => exact rest8
    | 9, _ => exact rest9
    | 10, _ => exact rest10
    | 11, _ => exact rest11
    | 12, _ => exact rest12
    | a + 13, h => exact absurd h (by omega)
  intro a ha b hb
  exact List.all_eq_true.1 (key a ha) b (List.mem_range.2 hb)
theorem rC_norm (n m : Int) : ∃ frA HA frB HB frC, runA fsW noM oraW 300 cA (initA 0 .nil [.int .i64 n, .int .i64 m]) ⟨0, .nil⟩ = some (.normal, frA, HA) ∧ runA fsW noM oraW 300 cB frA HA = some (.normal, frB, HB) ∧ runA fsW noM oraW 300 cC frB HB = some (.normal, frC, heap0) ∧
    frC.get 4 = some (.bool false) ∧ frC.get 5 = q0 ∧ frC.get 6 = some (.int .i64 (within n 0 12)) ∧ frC.get 7 = some (.int .i64 (within m 0 12)) := by
  have h := rC_eq n m
  unfold toC at h
  split at h
  · rename_i frC HC hC
    simp only [Option.some.injEq, Prod.mk.injEq] at h
    obtain ⟨h4, h5, h6, h7, -, rfl⟩ := h
    unfold rC at hC
    split at hC
    · rename_i frB HB hB
      unfold rB at hB
      split at hB
      · rename_i frA HA hA
        exact ⟨frA, HA, frB, HB, frC, hA, hB, hC, h4, h5, h6, h7⟩
      · cases hB
    · cases hC
  · cases h
theorem counts (n m : Int) (w : World) : Calls Try.prog 10 #[.int .i64 n, .int .i64 m] w fun e w' => e = .returned (.bool true) ∧ Kp (fun k => k < w.heap.size) w w' := by
  have key := calls_of_code (Z := fun k => k < w.heap.size) (ρ := fun _ => none) (hfsT 10 af10 (by kernel_rfl)) (args := [.int .i64 n, .int .i64 m]) (vs := #[.int .i64 n, .int .i64 m]) (w := w) (by simp only [RL, R]; exact ⟨_, _, rfl, rfl, _, _, rfl, rfl, rfl⟩)
    (fun u w' => u = .bool true ∧ Kp (fun k => k < w.heap.size) w w') (fun c nt a Q hc hf hQ => by
      rw [body10] at hc
      obtain ⟨frA, HA, frB, HB, frC, eA, eB, eC, g4, g5, g6, g7⟩ := rC_norm n m
      refine step_sim mixed oraW_ok hfsW noM_ok hc eA (HS.empty w) hf fun c1 ρ1 w1 a1 hc1 x1 s1 k1 f1 => ?_
      refine step_sim mixed oraW_ok hfsW noM_ok hc1 eB s1 f1 fun c2 ρ2 w2 a2 hc2 x2 s2 k2 f2 => ?_
      refine step_sim mixed oraW_ok hfsW noM_ok hc2 eC s2 f2 fun c3 ρ3 w3 a3 hc3 x3 s3 k3 f3 => ?_
      have ra := within_range n 0 12 (by decide)
      have rb := within_range m 0 12 (by decide)
      obtain ⟨x, hx⟩ : ∃ x : Nat, within n 0 12 = x := ⟨(within n 0 12).toNat, by omega⟩
      obtain ⟨y, hy⟩ : ∃ y : Nat, within m 0 12 = y := ⟨(within m 0 12).toNat, by omega⟩
      have hok := rest_ok x (by omega) y (by omega)
      have hf3 : Fr nt ρ3 (fr0 x y) a3 := f3.sub fun t v ht => by
        unfold fr0 at ht
        simp only [Tr.get_set] at ht
        split at ht
        · rename_i e; subst e; rw [g7, hy]; exact ht
        · split at ht
          · rename_i e; subst e; rw [g6, hx]; exact ht
          · split at ht
            · rename_i e; subst e; rw [g5]; exact ht
            · split at ht
              · rename_i e; subst e; rw [g4]; exact ht
              · simp [Tr.get] at ht
      unfold okRest at hok
      split at hok
      · rename_i fr' H' hrun
        refine code_sim mixed oraK_ok hfsK noM_ok 900 nt c3 cR (fr0 x y) heap0 .ret fr' H' hc3 hrun _ ρ3 w3 a3 Q s3 hf3 fun ρ4 a4 w4 q1 q2 q3 q4 => ?_
        split at hok
        · rename_i hres
          exact hQ .ret a4 w4 ρ4 fr' H' _ (.inl rfl) q2 q4 hres fun u hu => ⟨by simpa only [R] using hu, k1.trans (k2.trans (k3.trans q3))⟩
        · cases hok
      · cases hok)
  refine key.mono ?_
  rintro e w' ⟨u, rfl, rfl, k⟩
  exact ⟨rfl, k⟩
end Go.Proofs.Ytldlolpbnfgdeaa.AA
