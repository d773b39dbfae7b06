/- From the calculus to the program; what comes in. -/
import Derived.Test.YtbbjlbdmjikhbaaGreatDoorKCalA
import Derived.OpenShut
import Derived.Deep.Slices
import Derived.SizedLaws
set_option linter.unusedSimpArgs false
set_option linter.unusedVariables false
namespace Go.Proofs.YtbbjlbdmjikhbaaGreatDoor.AA
open Go Go.RowKit Go.WideShapes
set_option maxRecDepth 100000
theorem callA_ok {P : Program} {M : Mach} (hmx : P.follows .mixedOrders = true) (hora : CallOK P M.ora) (hfs : ∀ f fn, M.fs f = some fn → ckFunc P f fn = true) (hms : ckMeth P M.ms) (n : Nat) : CallOK P (callA M n) :=
  call_rec_ok (n := n) hora hfs fun nt c ac fr H ex fr' H' h1 h2 Z ρ w a Q h3 h4 h5 => code_sim hmx hora hfs hms n nt c ac fr H ex fr' H' h1 h2 Z ρ w a Q h3 h4 h5
theorem calls_of_CW {P : Program} {M : Mach} (hmx : P.follows .mixedOrders = true) (hora : CallOK P M.ora) (hfs : ∀ f fn, M.fs f = some fn → ckFunc P f fn = true) (hms : ckMeth P M.ms) {f : Nat} {args : List AV} {H : AHeap} {Q : AV → AHeap → Prop} {vs : Array Value} {Z : Nat → Prop} {ρ : Rho} {w : World}
    (h : CW M f args H Q) (hs : HS Z ρ H w) (hr : RL ρ args vs.toList) : Calls P f vs w fun e w' => ∃ ρ' u v H', e = .returned u ∧ Ext ρ ρ' ∧ HS Z ρ' H' w' ∧ Kp Z w w' ∧ R ρ' v u ∧ Q v H' := by
  obtain ⟨v, H', ⟨n0, h1⟩, h2⟩ := h
  refine ((callA_ok hmx hora hfs hms n0 f args H v H' (h1 n0 (Nat.le_refl _))).2 Z ρ w vs hs hr).mono ?_
  rintro e w' ⟨ρ', u, rfl, q1, q2, q3, q4⟩
  exact ⟨ρ', u, v, H', rfl, q1, q2, q3, q4, h2⟩
section
variable {Z : Nat → Prop} {ρ : Rho} {H : AHeap} {w : World}
theorem Chg.new (H : AHeap) (x : ABlk) : Chg H (H.new x) none := ⟨by simp [next_new], fun y hy => ⟨.inl (by rw [get_new, if_neg (by omega)]), fun _ => by rw [get_new, if_neg (by omega)]⟩⟩
end
section
variable {T : Type} {enc : TypeId × Value → T} {P : Program} {w : World}
end
section
variable {Z : Nat → Prop} {ρ : Rho} {H : AHeap} {w w' : World}
end
theorem law_true_of {P : Program} {M : Mach} (hmx : P.follows .mixedOrders = true) (hora : CallOK P M.ora) (hfs : ∀ f fn, M.fs f = some fn → ckFunc P f fn = true) (hms : ckMeth P M.ms) {f : Nat} {args : List AV} {H : AHeap} {vs : Array Value} {ρ : Rho} {w : World}
    (h : CW M f args H fun u _ => u = .bool true) (hs : HS (fun k => k < w.heap.size) ρ H w) (hr : RL ρ args vs.toList) :
    Calls P f vs w fun e w' => e = .returned (.bool true) ∧ Kp (fun k => k < w.heap.size) w w' := by
  refine (calls_of_CW hmx hora hfs hms h hs hr).mono ?_
  rintro e w' ⟨ρ', u, v, H', rfl, -, -, k, hr', rfl⟩
  simp only [R] at hr'
  subst hr'
  exact ⟨rfl, k⟩
section
variable {T : Type} {enc : TypeId × Value → T} {P : Program} {w : World}
end
abbrev Rep (α : Type) := AHeap → α → List AV → Prop
def MonoE {α : Type} (E : Rep α) : Prop := ∀ H H' a l, E H a l → Sm H H' → E H' a l
def IntE (k : IntKind) : Rep Int := fun _ n l => l = [.int k n] ∧ (Lit.int k n).wf = true
def StrE : Rep (List Nat) := fun _ s l => l = [.str s] ∧ (∀ x, x ∈ s → x < 256) ∧ s.length ≤ maxLen
def BoolE : Rep Bool := fun _ b l => l = [.bool b]
def SlE {α : Type} (E : Rep α) (s : Nat) : Rep (List α) := fun H as l => ∃ a s0 cl, l = [.slice a s0 as.length cl] ∧ (a = none ∨ s0 = s) ∧ as.length ≤ maxLen ∧ (as.length ≠ 0 → ∃ x o cs, a = some (x, o) ∧ Rd H x o cs ∧ cs.length = as.length * s ∧ ∀ j (hj : j < as.length), E H as[j] ((cs.drop (j * s)).take s))
def PairE {α β : Type} (E : Rep α) (s : Nat) (F : Rep β) : Rep (α × β) := fun H x l => ∃ l1 l2, l = l1 ++ l2 ∧ l1.length = s ∧ E H x.1 l1 ∧ F H x.2 l2
def NilE : Rep Unit := fun _ _ l => l = []
theorem MonoE.int {k : IntKind} : MonoE (IntE k) := fun _ _ _ _ h _ => h
theorem MonoE.str : MonoE StrE := fun _ _ _ _ h _ => h
theorem MonoE.bool : MonoE BoolE := fun _ _ _ _ h _ => h
theorem MonoE.nil : MonoE NilE := fun _ _ _ _ h _ => h
theorem MonoE.pair {α β : Type} {E : Rep α} {F : Rep β} {s : Nat} (h : MonoE E) (h' : MonoE F) : MonoE (PairE E s F) := fun H H' x l ⟨l1, l2, e, hl, h1, h2⟩ hs => ⟨l1, l2, e, hl, h _ _ _ _ h1 hs, h' _ _ _ _ h2 hs⟩
theorem MonoE.sl {α : Type} {E : Rep α} {s : Nat} (h : MonoE E) : MonoE (SlE E s) := fun H H' as l ⟨a, s0, cl, e, k1, k2', k⟩ hs => ⟨a, s0, cl, e, k1, k2', fun h0 => by
  obtain ⟨x, o, cs, k2, k3, k4, k5⟩ := k h0
  exact ⟨x, o, cs, k2, k3.keep hs.1 (hs.gt k3.1), k4, fun j hj => h _ _ _ _ (k5 j hj) hs⟩⟩
section
variable {Z : Nat → Prop} {ρ : Rho} {H : AHeap} {w : World}
end
section
variable {T : Type} {enc : TypeId × Value → T} {P : Program} {w : World}
end
section
variable {T : Type} {enc : TypeId × Value → T} {P : Program} {w : World}
end
end Go.Proofs.YtbbjlbdmjikhbaaGreatDoor.AA
