/- From the machine to the program. -/
import Derived.Test.YtaihjlemofgokaaRows
import Derived.Test.YtaihjlemofgokaaKHeaF
set_option linter.unusedSimpArgs false
set_option linter.unusedVariables false
namespace Go.Proofs.Ytaihjlemofgokaa.AA
open Go Go.RowKit Go.Proofs.Ytaihjlemofgokaa
set_option maxRecDepth 100000
theorem ckAll : Tr.allT (fun f fn => ckFunc Try.prog f fn) id tbl = true := by kernel_rfl
theorem hfsT (f : Nat) (fn : AFunc) (h : fsT f = some fn) : ckFunc Try.prog f fn = true := Tr.allT_get (k := id) ckAll h
theorem mixed : Try.prog.follows .mixedOrders = true := by kernel_rfl
theorem oraN_ok : CallOK Try.prog oraN := by
  intro f args H v H' he
  unfold oraN at he
  rw [Bool.cond_eq_ite] at he
  split at he
  · rename_i hf
    have : f = 43 := by simpa using hf
    subst this
    exact ⟨⟨_, Try.func43, by kernel_rfl, by kernel_rfl⟩, fun Z ρ w vs h hr => ids_ok he h hr⟩
  · cases he
theorem RL.one {ρ : Rho} {l : List AV} {v : Value} (h : RL ρ l [v]) : ∃ a, l = [a] ∧ R ρ a v := by
  cases l with
  | nil => simp [RL] at h
  | cons a l =>
    simp only [RL] at h
    obtain ⟨u, us, e, h1, h2⟩ := h
    cases e
    cases l with
    | nil => exact ⟨a, rfl, h1⟩
    | cons b l => simp [RL] at h2
section
variable {f : Nat} {W : World}
theorem N_call {args : List AV} {vs : Array Value} {H : AHeap} {ρ : Rho} (h : CW MN f args H fun u _ => u = .bool true) (hs : HS (fun k => k < W.heap.size) ρ H W) (hr : RL ρ args vs.toList) : Calls Try.prog f vs W fun e W' => e = .returned (.bool true) ∧ Kp (fun k => k < W.heap.size) W W' :=
  law_true_of mixed oraN_ok hfsT (fun t n f o h => by cases h) h hs hr
end
theorem swaps_call (W : World) {x y v w : Int} (_ : (Lit.int .i64 x).wf = true) (_ : (Lit.int .i64 y).wf = true) (_ : (Lit.int .i64 v).wf = true) (_ : (Lit.int .i64 w).wf = true) : Calls Try.prog 6 #[.int .i64 x, .int .i64 y, .int .i64 v, .int .i64 w] W fun e W' => e = .returned (.bool true) ∧ Kp (fun k => k < W.heap.size) W W' := by
  refine N_call (ρ := ⟨fun _ => none, fun _ => none⟩) (c_HeapSwaps (H := ⟨0, .nil⟩) x y v w) (HS.empty W) ?_
  simp only [RL, R]
  exact ⟨_, _, rfl, rfl, _, _, rfl, rfl, _, _, rfl, rfl, _, _, rfl, rfl, rfl⟩
end Go.Proofs.Ytaihjlemofgokaa.AA
