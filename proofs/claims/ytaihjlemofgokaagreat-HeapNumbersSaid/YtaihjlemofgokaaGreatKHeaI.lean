/- From the machine to the program. -/
import Derived.Test.YtaihjlemofgokaaGreatRows
import Derived.Test.YtaihjlemofgokaaGreatKHeaH
import Derived.SizedLaws
set_option linter.unusedSimpArgs false
set_option linter.unusedVariables false
namespace Go.Proofs.YtaihjlemofgokaaGreat.AA
open Go Go.RowKit Go.WideShapes
section
variable {T : Type} {enc : TypeId × Value → T} {P : Program} {w : World}
end
open Go Go.RowKit Go.Proofs.YtaihjlemofgokaaGreat
set_option maxRecDepth 100000
theorem ckAll : Tr.allT (fun f fn => ckFunc Tryz.prog f fn) id tbl = true := by kernel_rfl
theorem hfsT (f : Nat) (fn : AFunc) (h : fsT f = some fn) : ckFunc Tryz.prog f fn = true := Tr.allT_get (k := id) ckAll h
theorem mixed : Tryz.prog.follows .mixedOrders = true := by kernel_rfl
theorem oraN_ok : CallOK Tryz.prog oraN := by
  intro f args H v H' he
  unfold oraN at he
  rw [Bool.cond_eq_ite] at he
  split at he
  · rename_i hf
    have : f = 79 := by simpa using hf
    subst this
    exact ⟨⟨_, Tryz.func79, by kernel_rfl, by kernel_rfl⟩, fun Z ρ w vs h hr => ids_ok he h hr⟩
  · cases he
theorem RL.one {ρ : Rho} {l : List AV} {v : Value} (h : RL ρ l [v]) : ∃ a, l = [a] ∧ R ρ a v := by
  cases l with
  | nil => simp [RL] at h
  | cons a l =>
    simp only [RL] at h
    obtain ⟨u, us, e, h1, h2⟩ := h
    cases e
    cases l with
    | nil => exact ⟨a, rfl, h1⟩
    | cons b l => simp [RL] at h2
section
variable {f : Nat} {W : World}
theorem N_call {args : List AV} {vs : Array Value} {H : AHeap} {ρ : Rho} (h : CW MN f args H fun u _ => u = .bool true) (hs : HS (fun k => k < W.heap.size) ρ H W) (hr : RL ρ args vs.toList) : Calls Tryz.prog f vs W fun e W' => e = .returned (.bool true) ∧ Kp (fun k => k < W.heap.size) W W' :=
  law_true_of mixed oraN_ok hfsT (fun t n f o h => by cases h) h hs hr
end
section
variable {T : Type} {enc : TypeId × Value → T} {W : World} {P : Program}
theorem numbers_call (W : World) : Calls Tryz.prog 3 #[] W fun e W' => e = .returned (.bool true) ∧ Kp (fun k => k < W.heap.size) W W' :=
  N_call c_HeapNumbers (HS.empty W) rfl
end
end Go.Proofs.YtaihjlemofgokaaGreat.AA
