/- From the machine to the program. -/
import Derived.Test.YtaihjlemofgokaaGreatRows
import Derived.Test.YtaihjlemofgokaaGreatKHeaJ
import Derived.SizedLaws
set_option linter.unusedSimpArgs false
set_option linter.unusedVariables false
namespace Go.Proofs.YtaihjlemofgokaaGreat.AA
open Go Go.RowKit Go.WideShapes
section
variable {T : Type} {enc : TypeId × Value → T} {P : Program} {w : World}
end
open Go Go.RowKit Go.Proofs.YtaihjlemofgokaaGreat
set_option maxRecDepth 100000
theorem ckAll : Tr.allT (fun f fn => ckFunc Tryz.prog f fn) id tbl = true := by kernel_rfl
theorem hfsT (f : Nat) (fn : AFunc) (h : fsT f = some fn) : ckFunc Tryz.prog f fn = true := Tr.allT_get (k := id) ckAll h
theorem mixed : Tryz.prog.follows .mixedOrders = true := by kernel_rfl
theorem oraN_ok : CallOK Tryz.prog oraN := by
  intro f args H v H' he
  unfold oraN at he
  rw [Bool.cond_eq_ite] at he
  split at he
  · rename_i hf
    have : f = 79 := by simpa using hf
    subst this
    exact ⟨⟨_, Tryz.func79, by kernel_rfl, by kernel_rfl⟩, fun Z ρ w vs h hr => ids_ok he h hr⟩
  · cases he
theorem Adds.map {α β : Type} {w : World} {p : List Value → Prop} {E : Rep α} {F : Rep β} (h : Adds w p E) (k : ∀ H a l, E H a l → ∃ b, F H b l) : Adds w p F := fun cs hc Z ρ H hs ro => by
  obtain ⟨ρ', H', a, l, q1, q2, q3, q4, q5, q6, q7⟩ := h cs hc Z ρ H hs ro
  obtain ⟨b, hb⟩ := k _ _ _ q7
  exact ⟨ρ', H', b, l, q1, q2, q3, q4, q5, q6, hb⟩
theorem RL.one {ρ : Rho} {l : List AV} {v : Value} (h : RL ρ l [v]) : ∃ a, l = [a] ∧ R ρ a v := by
  cases l with
  | nil => simp [RL] at h
  | cons a l =>
    simp only [RL] at h
    obtain ⟨u, us, e, h1, h2⟩ := h
    cases e
    cases l with
    | nil => exact ⟨a, rfl, h1⟩
    | cons b l => simp [RL] at h2
section
variable {f : Nat} {W : World}
theorem N_call {args : List AV} {vs : Array Value} {H : AHeap} {ρ : Rho} (h : CW MN f args H fun u _ => u = .bool true) (hs : HS (fun k => k < W.heap.size) ρ H W) (hr : RL ρ args vs.toList) : Calls Tryz.prog f vs W fun e W' => e = .returned (.bool true) ∧ Kp (fun k => k < W.heap.size) W W' :=
  law_true_of mixed oraN_ok hfsT (fun t n f o h => by cases h) h hs hr
end
section
variable {T : Type} {enc : TypeId × Value → T} {W : World} {P : Program}
theorem adds_i9 : Adds W (TP enc Tryz.prog W 3 1) (IntE .i64) := adds_int Tryz.underlying3
theorem adds_ask9 : Adds W (TP enc Tryz.prog W 24 4) AsE := (adds_struct (l := [(3, 1), (3, 1), (3, 1), (3, 1)]) Tryz.underlying24 (by kernel_rfl) rfl (adds_cons MonoE.int adds_i9 (adds_cons MonoE.int adds_i9 (adds_cons MonoE.int adds_i9 (adds_cons MonoE.int adds_i9 adds_nil))))).map fun H x l h => by
  obtain ⟨l1, l2, rfl, -, ⟨rfl, h1⟩, l3, l4, rfl, -, ⟨rfl, h2⟩, l5, l6, rfl, -, ⟨rfl, h3⟩, l7, l8, rfl, -, ⟨rfl, h4⟩, rfl⟩ := h
  exact ⟨⟨x.1, x.2.1, x.2.2.1, x.2.2.2.1⟩, rfl, trivial⟩
end
section
variable {T : Type} {enc : TypeId × Value → T} {W : World}
theorem adds_asks9 : Adds W (TP enc Tryz.prog W 22 1) (SlE AsE 4) := adds_slice Tryz.underlying22 (by kernel_rfl) (by omega) MonoE.enc adds_ask9
theorem keeps_call (W : World) {v : Value} {x : Int} (hv : TP enc Tryz.prog W 22 1 [v]) (_ : (Lit.int .i64 x).wf = true) : Calls Tryz.prog 5 #[v, .int .i64 x] W fun e W' => e = .returned (.bool true) ∧ Kp (fun k => k < W.heap.size) W W' := by
  obtain ⟨ρ1, H1, xs, l1, q1, q2, q3, q4, q5, -, q7⟩ := adds_asks9 (enc := enc) _ hv _ _ _ (HS.empty W) RO.empty
  obtain ⟨a, s0, cl, -, -, hm, -⟩ := id q7
  obtain ⟨u, rfl, hu⟩ := q5.one
  refine N_call (c_HeapKeeps (turns := x) q7 (Nat.le_trans hm (by unfold maxLen; omega))) q1 ?_
  simp only [RL, R]
  exact ⟨_, _, rfl, hu, _, _, rfl, rfl, rfl⟩
end
end Go.Proofs.YtaihjlemofgokaaGreat.AA
