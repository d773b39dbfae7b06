/- From the calculus to the program; what comes in. -/
import Derived.Test.YtaihjlemofgokaaGreatKCalA
import Derived.OpenShut
import Derived.Deep.Slices
import Derived.SizedLaws
set_option linter.unusedSimpArgs false
set_option linter.unusedVariables false
namespace Go.Proofs.YtaihjlemofgokaaGreat.AA
open Go Go.RowKit Go.WideShapes
set_option maxRecDepth 100000
theorem callA_ok {P : Program} {M : Mach} (hmx : P.follows .mixedOrders = true) (hora : CallOK P M.ora) (hfs : ∀ f fn, M.fs f = some fn → ckFunc P f fn = true) (hms : ckMeth P M.ms) (n : Nat) : CallOK P (callA M n) :=
  call_rec_ok (n := n) hora hfs fun nt c ac fr H ex fr' H' h1 h2 Z ρ w a Q h3 h4 h5 => code_sim hmx hora hfs hms n nt c ac fr H ex fr' H' h1 h2 Z ρ w a Q h3 h4 h5
theorem calls_of_CW {P : Program} {M : Mach} (hmx : P.follows .mixedOrders = true) (hora : CallOK P M.ora) (hfs : ∀ f fn, M.fs f = some fn → ckFunc P f fn = true) (hms : ckMeth P M.ms) {f : Nat} {args : List AV} {H : AHeap} {Q : AV → AHeap → Prop} {vs : Array Value} {Z : Nat → Prop} {ρ : Rho} {w : World}
    (h : CW M f args H Q) (hs : HS Z ρ H w) (hr : RL ρ args vs.toList) : Calls P f vs w fun e w' => ∃ ρ' u v H', e = .returned u ∧ Ext ρ ρ' ∧ HS Z ρ' H' w' ∧ Kp Z w w' ∧ R ρ' v u ∧ Q v H' := by
  obtain ⟨v, H', ⟨n0, h1⟩, h2⟩ := h
  refine ((callA_ok hmx hora hfs hms n0 f args H v H' (h1 n0 (Nat.le_refl _))).2 Z ρ w vs hs hr).mono ?_
  rintro e w' ⟨ρ', u, rfl, q1, q2, q3, q4⟩
  exact ⟨ρ', u, v, H', rfl, q1, q2, q3, q4, h2⟩
section
variable {Z : Nat → Prop} {ρ : Rho} {H : AHeap} {w : World}
theorem Chg.new (H : AHeap) (x : ABlk) : Chg H (H.new x) none := ⟨by simp [next_new], fun y hy => ⟨.inl (by rw [get_new, if_neg (by omega)]), fun _ => by rw [get_new, if_neg (by omega)]⟩⟩
end
section
variable {T : Type} {enc : TypeId × Value → T} {P : Program} {w : World}
end
section
variable {Z : Nat → Prop} {ρ : Rho} {H : AHeap} {w w' : World}
theorem Kp.of_below (h : Below w.heap.size w w') : Kp (fun k => k < w.heap.size) w w' := ⟨h.os, h.tape, h.output, h.size, fun j hj _ => h.block j hj⟩
theorem add_fresh (h : HS Z ρ H w) (k : Kp (fun k => k < w.heap.size) w w') {b : Nat} {C : Array Value} {e : TypeId} {fz : Nat × Nat} (hge : w.heap.size ≤ b) (hg : w'.heap[b]? = some (.cells C e fz)) {cs : List AV} {n : Nat} (hn : cs.length = n) (hl : n ≤ C.size)
    (hc : ∀ (j : Nat) v, cs[j]? = some v → ∃ k n, v = .int k n ∧ C[j]? = some (.int k n)) : HS Z (bump ρ H.next (b, 0, C.size)) (H.new (.cells (ofL cs 0 .nil) n false [])) w' := by
  subst hn
  have h' := h.keep k
  have hold : ∀ b', b' ≠ H.next → bump ρ H.next (b, 0, C.size) b' = ρ b' := fun b' hb => by simp [bump, hb]
  have hself : bump ρ H.next (b, 0, C.size) H.next = some (b, 0, C.size) := by simp [bump]
  have hext := h.ext_bump (b, 0, C.size)
  have hdead : ∀ b', b' ≠ H.next → (H.new (.cells (ofL cs 0 .nil) cs.length false [])).get b' = H.get b' := fun b' hb => by rw [get_new, if_neg (Ne.symm hb)]
  refine ⟨fun b' y hb => ⟨?_, trivial⟩, fun b' c n own par hng hb => ?_, fun b' es k' hb => ?_, fun b1 c1 n1 par1 hb1 b2 c2 n2 own2 par2 hne hb2 g1 o1 N1 o2 N2 r1 r2 => ?_, fun b1 es1 k1 hb1 b2 es2 k2 hne hb2 g1 o1 N1 o2 N2 r1 r2 => ?_, h'.zb, fun b' l' hb => ⟨by rw [hold b' (by have := (h.gh b' l' hb).2.1; omega)]; exact (h.gh b' l' hb).1, by show b' < H.next + 1; have := (h.gh b' l' hb).2.1; omega, (h.gh b' l' hb).2.2.get (by rw [get_new, if_neg (by have := (h.gh b' l' hb).2.1; omega)])⟩, fun b' c n own par hb x hx => by
    rw [get_new] at hb
    split at hb
    · first | (cases hb; done) | (cases hb; cases hx)
    · obtain ⟨y, hy⟩ := h.pm b' c n own par hb x hx
      exact ⟨y, hext.1 _ _ hy⟩⟩
  · show b' < H.next + 1
    by_cases e : b' = H.next
    · omega
    · rw [hold b' e] at hb
      have := (h.dom b' y hb).1; omega
  · by_cases e' : b' = H.next
    · subst e'
      rw [get_new, if_pos rfl] at hb
      cases hb
      refine ⟨b, 0, C.size, hself, by omega, fun h => (by cases h), C, e, fz, hg, rfl, fun h => (by cases h), fun i hi => ?_⟩
      obtain ⟨k, n, q1, q2⟩ := hc i cs[i] (List.getElem?_eq_getElem hi)
      refine ⟨.int k n, .int k n, ?_, by rw [Nat.zero_add]; exact q2, by simp only [R], rfl⟩
      rw [get_ofL, if_pos (by omega), Nat.sub_zero, List.getElem?_eq_getElem hi, q1]
    · rw [hdead b' e'] at hb
      obtain ⟨g, o, N, h1, h2, h3, C, e, fz, h4, h5, h6, h7⟩ := h'.cells b' c n own par hng hb
      refine ⟨g, o, N, hext.1 _ _ h1, h2, h3, C, e, fz, h4, h5, h6, fun i hi => ?_⟩
      obtain ⟨a, v, e1, e2, e3, e4⟩ := h7 i hi
      exact ⟨a, v, e1, e2, e3.mono' hext, e4⟩
  · by_cases e' : b' = H.next
    · subst e'; rw [get_new, if_pos rfl] at hb; cases hb
    · rw [hdead b' e'] at hb
      obtain ⟨g, o, N, h1, h2, E, h3, h4⟩ := h'.maps b' es k' hb
      exact ⟨g, o, N, hext.1 _ _ h1, h2, E, h3, RE.mono hext h4⟩
  · by_cases e1 : b1 = H.next
    · subst e1; rw [get_new, if_pos rfl] at hb1; cases hb1
    · rw [hdead b1 e1] at hb1
      rw [hold b1 e1] at r1
      by_cases e2 : b2 = H.next
      · subst e2
        rw [hself] at r2; cases r2
        have := h.ltc hb1 r1
        simp at this; omega
      · rw [hdead b2 e2] at hb2
        rw [hold b2 e2] at r2
        exact h.own b1 c1 n1 par1 hb1 b2 c2 n2 own2 par2 hne hb2 g1 o1 N1 o2 N2 r1 r2
  · by_cases e1 : b1 = H.next
    · subst e1; rw [get_new, if_pos rfl] at hb1; cases hb1
    · by_cases e2 : b2 = H.next
      · subst e2; rw [get_new, if_pos rfl] at hb2; cases hb2
      · rw [hdead b1 e1] at hb1
        rw [hdead b2 e2] at hb2
        rw [hold b1 e1] at r1
        rw [hold b2 e2] at r2
        exact h.mapown b1 es1 k1 hb1 b2 es2 k2 hne hb2 g1 o1 N1 o2 N2 r1 r2
end
theorem law_true_of {P : Program} {M : Mach} (hmx : P.follows .mixedOrders = true) (hora : CallOK P M.ora) (hfs : ∀ f fn, M.fs f = some fn → ckFunc P f fn = true) (hms : ckMeth P M.ms) {f : Nat} {args : List AV} {H : AHeap} {vs : Array Value} {ρ : Rho} {w : World}
    (h : CW M f args H fun u _ => u = .bool true) (hs : HS (fun k => k < w.heap.size) ρ H w) (hr : RL ρ args vs.toList) :
    Calls P f vs w fun e w' => e = .returned (.bool true) ∧ Kp (fun k => k < w.heap.size) w w' := by
  refine (calls_of_CW hmx hora hfs hms h hs hr).mono ?_
  rintro e w' ⟨ρ', u, v, H', rfl, -, -, k, hr', rfl⟩
  simp only [R] at hr'
  subst hr'
  exact ⟨rfl, k⟩
section
variable {T : Type} {enc : TypeId × Value → T} {P : Program} {w : World}
end
abbrev Rep (α : Type) := AHeap → α → List AV → Prop
def MonoE {α : Type} (E : Rep α) : Prop := ∀ H H' a l, E H a l → Sm H H' → E H' a l
def IntE (k : IntKind) : Rep Int := fun _ n l => l = [.int k n] ∧ (Lit.int k n).wf = true
def StrE : Rep (List Nat) := fun _ s l => l = [.str s] ∧ (∀ x, x ∈ s → x < 256) ∧ s.length ≤ maxLen
def BoolE : Rep Bool := fun _ b l => l = [.bool b]
def SlE {α : Type} (E : Rep α) (s : Nat) : Rep (List α) := fun H as l => ∃ a s0 cl, l = [.slice a s0 as.length cl] ∧ (a = none ∨ s0 = s) ∧ as.length ≤ maxLen ∧ (as.length ≠ 0 → ∃ x o cs, a = some (x, o) ∧ Rd H x o cs ∧ cs.length = as.length * s ∧ ∀ j (hj : j < as.length), E H as[j] ((cs.drop (j * s)).take s))
def NilE : Rep Unit := fun _ _ l => l = []
theorem MonoE.int {k : IntKind} : MonoE (IntE k) := fun _ _ _ _ h _ => h
theorem MonoE.str : MonoE StrE := fun _ _ _ _ h _ => h
theorem MonoE.bool : MonoE BoolE := fun _ _ _ _ h _ => h
theorem MonoE.nil : MonoE NilE := fun _ _ _ _ h _ => h
theorem MonoE.sl {α : Type} {E : Rep α} {s : Nat} (h : MonoE E) : MonoE (SlE E s) := fun H H' as l ⟨a, s0, cl, e, k1, k2', k⟩ hs => ⟨a, s0, cl, e, k1, k2', fun h0 => by
  obtain ⟨x, o, cs, k2, k3, k4, k5⟩ := k h0
  exact ⟨x, o, cs, k2, k3.keep hs.1 (hs.gt k3.1), k4, fun j hj => h _ _ _ _ (k5 j hj) hs⟩⟩
section
variable {Z : Nat → Prop} {ρ : Rho} {H : AHeap} {w : World}
end
section
variable {T : Type} {enc : TypeId × Value → T} {P : Program} {w : World}
end
end Go.Proofs.YtaihjlemofgokaaGreat.AA
