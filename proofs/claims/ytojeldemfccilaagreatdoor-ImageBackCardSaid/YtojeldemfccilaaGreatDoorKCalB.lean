/- From the calculus to the program; what comes in. -/
import Derived.Test.YtojeldemfccilaaGreatDoorKCalA
import Derived.OpenShut
import Derived.Deep.Slices
import Derived.SizedLaws
set_option linter.unusedSimpArgs false
set_option linter.unusedVariables false
namespace Go.Proofs.YtojeldemfccilaaGreatDoor.AA
open Go Go.RowKit Go.WideShapes
set_option maxRecDepth 100000
theorem callA_ok {P : Program} {M : Mach} (hmx : P.follows .mixedOrders = true) (hora : CallOK P M.ora) (hfs : ∀ f fn, M.fs f = some fn → ckFunc P f fn = true) (hms : ckMeth P M.ms) (n : Nat) : CallOK P (callA M n) :=
  call_rec_ok (n := n) hora hfs fun nt c ac fr H ex fr' H' h1 h2 Z ρ w a Q h3 h4 h5 => code_sim hmx hora hfs hms n nt c ac fr H ex fr' H' h1 h2 Z ρ w a Q h3 h4 h5
theorem calls_of_CW {P : Program} {M : Mach} (hmx : P.follows .mixedOrders = true) (hora : CallOK P M.ora) (hfs : ∀ f fn, M.fs f = some fn → ckFunc P f fn = true) (hms : ckMeth P M.ms) {f : Nat} {args : List AV} {H : AHeap} {Q : AV → AHeap → Prop} {vs : Array Value} {Z : Nat → Prop} {ρ : Rho} {w : World}
    (h : CW M f args H Q) (hs : HS Z ρ H w) (hr : RL ρ args vs.toList) : Calls P f vs w fun e w' => ∃ ρ' u v H', e = .returned u ∧ Ext ρ ρ' ∧ HS Z ρ' H' w' ∧ Kp Z w w' ∧ R ρ' v u ∧ Q v H' := by
  obtain ⟨v, H', ⟨n0, h1⟩, h2⟩ := h
  refine ((callA_ok hmx hora hfs hms n0 f args H v H' (h1 n0 (Nat.le_refl _))).2 Z ρ w vs hs hr).mono ?_
  rintro e w' ⟨ρ', u, rfl, q1, q2, q3, q4⟩
  exact ⟨ρ', u, v, H', rfl, q1, q2, q3, q4, h2⟩
def RO (H : AHeap) : Prop := (∀ b c n par, H.get b ≠ .cells c n true par) ∧ ∀ b es k, H.get b ≠ .map es k
theorem RO.empty : RO ⟨0, .nil⟩ := by
  have hg : ∀ b, (⟨0, .nil⟩ : AHeap).get b = .dead := fun b => by simp [AHeap.get, Tr.get]
  exact ⟨fun b c n par h => (by rw [hg] at h; cases h), fun b es k h => (by rw [hg] at h; cases h)⟩
section
variable {Z : Nat → Prop} {ρ : Rho} {H : AHeap} {w : World}
theorem Chg.new (H : AHeap) (x : ABlk) : Chg H (H.new x) none := ⟨by simp [next_new], fun y hy => ⟨.inl (by rw [get_new, if_neg (by omega)]), fun _ => by rw [get_new, if_neg (by omega)]⟩⟩
theorem add_dead (h : HS Z ρ H w) (x : Nat × Nat × Nat) (ro : RO H) : HS Z (bump ρ H.next x) (H.new .dead) w ∧ RO (H.new .dead) := by
  have hold : ∀ b, b ≠ H.next → bump ρ H.next x b = ρ b := fun b hb => by simp [bump, hb]
  have hext := h.ext_bump x
  have hne : ∀ b y, ρ b = some y → b ≠ H.next := fun b y hb e => by have := (h.dom b y hb).1; omega
  have ro' : RO (H.new .dead) := by
    refine ⟨fun b c n par hb => ?_, fun b es k hb => ?_⟩
    · rw [get_new] at hb
      split at hb
      · cases hb
      · exact ro.1 b c n par hb
    · rw [get_new] at hb
      split at hb
      · cases hb
      · exact ro.2 b es k hb
  refine ⟨⟨fun b y hb => ⟨?_, trivial⟩, fun b c n own par hng hb => ?_, fun b es k hb => absurd hb (ro'.2 b es k), fun b c n par hb => absurd hb (ro'.1 b c n par), fun b es k hb => absurd hb (ro'.2 b es k), h.zb, fun b' l' hb => ⟨by rw [hold b' (by have := (h.gh b' l' hb).2.1; omega)]; exact (h.gh b' l' hb).1, by show b' < H.next + 1; have := (h.gh b' l' hb).2.1; omega, (h.gh b' l' hb).2.2.get (by rw [get_new, if_neg (by have := (h.gh b' l' hb).2.1; omega)])⟩, fun b' c n own par hb x hx => by
    rw [get_new] at hb
    split at hb
    · first | (cases hb; done) | (cases hb; cases hx)
    · obtain ⟨y, hy⟩ := h.pm b' c n own par hb x hx
      exact ⟨y, hext.1 _ _ hy⟩⟩, ro'⟩
  · show b < H.next + 1
    by_cases e : b = H.next
    · omega
    · rw [hold b e] at hb
      have := (h.dom b y hb).1; omega
  · rw [get_new] at hb
    split at hb
    · cases hb
    · obtain ⟨g, o, N, h1, h2, h3, C, e, fz, h4, h5, h6, h7⟩ := h.cells b c n own par hng hb
      refine ⟨g, o, N, hext.1 _ _ h1, h2, h3, C, e, fz, h4, h5, h6, fun i hi => ?_⟩
      obtain ⟨a, v, e1, e2, e3, e4⟩ := h7 i hi
      exact ⟨a, v, e1, e2, e3.mono' hext, e4⟩
end
section
variable {T : Type} {enc : TypeId × Value → T} {P : Program} {w : World}
theorem cell_at {b off : Nat} {u : Value} (h : w.cell? ⟨b, off, none⟩ = some u) : ∃ C e fz, w.heap[b]? = some (.cells C e fz) ∧ C[off]? = some u := by
  unfold World.cell? at h
  simp only [Option.isSome_none, Bool.false_eq_true, if_false] at h
  split at h
  · rename_i C e fz hg
    exact ⟨C, e, fz, hg, h⟩
  · cases h
theorem add_none' {a : Addr} {b off : Nat} (h : a = ⟨b, off, none⟩) (i : Nat) : a.add i = ⟨b, off + i, none⟩ := by
  subst h
  unfold Addr.add
  split
  · rename_i h0; subst h0; rfl
  · rfl
end
section
variable {Z : Nat → Prop} {ρ : Rho} {H : AHeap} {w w' : World}
end
theorem law_true_of {P : Program} {M : Mach} (hmx : P.follows .mixedOrders = true) (hora : CallOK P M.ora) (hfs : ∀ f fn, M.fs f = some fn → ckFunc P f fn = true) (hms : ckMeth P M.ms) {f : Nat} {args : List AV} {H : AHeap} {vs : Array Value} {ρ : Rho} {w : World}
    (h : CW M f args H fun u _ => u = .bool true) (hs : HS (fun k => k < w.heap.size) ρ H w) (hr : RL ρ args vs.toList) :
    Calls P f vs w fun e w' => e = .returned (.bool true) ∧ Kp (fun k => k < w.heap.size) w w' := by
  refine (calls_of_CW hmx hora hfs hms h hs hr).mono ?_
  rintro e w' ⟨ρ', u, v, H', rfl, -, -, k, hr', rfl⟩
  simp only [R] at hr'
  subst hr'
  exact ⟨rfl, k⟩
section
variable {T : Type} {enc : TypeId × Value → T} {P : Program} {w : World}
end
abbrev Rep (α : Type) := AHeap → α → List AV → Prop
def MonoE {α : Type} (E : Rep α) : Prop := ∀ H H' a l, E H a l → Sm H H' → E H' a l
def TP {T : Type} (enc : TypeId × Value → T) (P : Program) (w : World) (t : TypeId) (s : Nat) (cs : List Value) : Prop := cs.length = s ∧ ∃ held n y, DataW.trod enc P w 0 (fun _ => true) held n t cs = some y
def Adds {α : Type} (w : World) (p : List Value → Prop) (E : Rep α) : Prop := ∀ cs, p cs → ∀ Z ρ H, HS Z ρ H w → RO H → ∃ ρ' H' a l, HS Z ρ' H' w ∧ RO H' ∧ Ext ρ ρ' ∧ Sm H H' ∧ RL ρ' l cs ∧ l.all AV.flat = true ∧ E H' a l
def IntE (k : IntKind) : Rep Int := fun _ n l => l = [.int k n] ∧ (Lit.int k n).wf = true
def StrE : Rep (List Nat) := fun _ s l => l = [.str s] ∧ (∀ x, x ∈ s → x < 256) ∧ s.length ≤ maxLen
def BoolE : Rep Bool := fun _ b l => l = [.bool b]
def SlE {α : Type} (E : Rep α) (s : Nat) : Rep (List α) := fun H as l => ∃ a s0 cl, l = [.slice a s0 as.length cl] ∧ (a = none ∨ s0 = s) ∧ as.length ≤ maxLen ∧ (as.length ≠ 0 → ∃ x o cs, a = some (x, o) ∧ Rd H x o cs ∧ cs.length = as.length * s ∧ ∀ j (hj : j < as.length), E H as[j] ((cs.drop (j * s)).take s))
def PairE {α β : Type} (E : Rep α) (s : Nat) (F : Rep β) : Rep (α × β) := fun H x l => ∃ l1 l2, l = l1 ++ l2 ∧ l1.length = s ∧ E H x.1 l1 ∧ F H x.2 l2
def NilE : Rep Unit := fun _ _ l => l = []
theorem MonoE.int {k : IntKind} : MonoE (IntE k) := fun _ _ _ _ h _ => h
theorem MonoE.str : MonoE StrE := fun _ _ _ _ h _ => h
theorem MonoE.bool : MonoE BoolE := fun _ _ _ _ h _ => h
theorem MonoE.nil : MonoE NilE := fun _ _ _ _ h _ => h
theorem MonoE.pair {α β : Type} {E : Rep α} {F : Rep β} {s : Nat} (h : MonoE E) (h' : MonoE F) : MonoE (PairE E s F) := fun H H' x l ⟨l1, l2, e, hl, h1, h2⟩ hs => ⟨l1, l2, e, hl, h _ _ _ _ h1 hs, h' _ _ _ _ h2 hs⟩
theorem MonoE.sl {α : Type} {E : Rep α} {s : Nat} (h : MonoE E) : MonoE (SlE E s) := fun H H' as l ⟨a, s0, cl, e, k1, k2', k⟩ hs => ⟨a, s0, cl, e, k1, k2', fun h0 => by
  obtain ⟨x, o, cs, k2, k3, k4, k5⟩ := k h0
  exact ⟨x, o, cs, k2, k3.keep hs.1 (hs.gt k3.1), k4, fun j hj => h _ _ _ _ (k5 j hj) hs⟩⟩
section
variable {Z : Nat → Prop} {ρ : Rho} {H : AHeap} {w : World}
theorem add_cellsR (h : HS Z ρ H w) (ro : RO H) {b off : Nat} {C : Array Value} {e : TypeId} {fz : Nat × Nat} (hg : w.heap[b]? = some (.cells C e fz)) {cs : List AV} (hl : off + cs.length ≤ C.size)
    (hc : ∀ (j : Nat) v, cs[j]? = some v → ∃ u, C[off + j]? = some u ∧ R ρ v u ∧ v.flat = true) : HS Z (bump ρ H.next (b, off, C.size)) (H.new (.cells (ofL cs 0 .nil) cs.length false [])) w ∧ RO (H.new (.cells (ofL cs 0 .nil) cs.length false [])) := by
  have hold : ∀ b', b' ≠ H.next → bump ρ H.next (b, off, C.size) b' = ρ b' := fun b' hb => by simp [bump, hb]
  have hself : bump ρ H.next (b, off, C.size) H.next = some (b, off, C.size) := by simp [bump]
  have hext := h.ext_bump (b, off, C.size)
  have ro' : RO (H.new (.cells (ofL cs 0 .nil) cs.length false [])) := by
    refine ⟨fun b c n par hb => ?_, fun b es k hb => ?_⟩
    · rw [get_new] at hb
      split at hb
      · cases hb
      · exact ro.1 b c n par hb
    · rw [get_new] at hb
      split at hb
      · cases hb
      · exact ro.2 b es k hb
  refine ⟨⟨fun b' y hb => ⟨?_, trivial⟩, fun b' c n own par hng hb => ?_, fun b es k hb => absurd hb (ro'.2 b es k), fun b c n par hb => absurd hb (ro'.1 b c n par), fun b es k hb => absurd hb (ro'.2 b es k), h.zb, fun b' l' hb => ⟨by rw [hold b' (by have := (h.gh b' l' hb).2.1; omega)]; exact (h.gh b' l' hb).1, by show b' < H.next + 1; have := (h.gh b' l' hb).2.1; omega, (h.gh b' l' hb).2.2.get (by rw [get_new, if_neg (by have := (h.gh b' l' hb).2.1; omega)])⟩, fun b' c n own par hb x hx => by
    rw [get_new] at hb
    split at hb
    · first | (cases hb; done) | (cases hb; cases hx)
    · obtain ⟨y, hy⟩ := h.pm b' c n own par hb x hx
      exact ⟨y, hext.1 _ _ hy⟩⟩, ro'⟩
  · show b' < H.next + 1
    by_cases e : b' = H.next
    · omega
    · rw [hold b' e] at hb
      have := (h.dom b' y hb).1; omega
  · rw [get_new] at hb
    split at hb
    · rename_i e'
      subst e'
      cases hb
      refine ⟨b, off, C.size, hself, hl, fun h => (by cases h), C, e, fz, hg, rfl, fun h => (by cases h), fun i hi => ?_⟩
      obtain ⟨u, q1, q2, q3⟩ := hc i cs[i] (List.getElem?_eq_getElem hi)
      refine ⟨cs[i], u, ?_, q1, q2.mono' hext, q3⟩
      rw [get_ofL, if_pos (by omega), Nat.sub_zero, List.getElem?_eq_getElem hi]
    · obtain ⟨g, o, N, h1, h2, h3, C, e, fz, h4, h5, h6, h7⟩ := h.cells b' c n own par hng hb
      refine ⟨g, o, N, hext.1 _ _ h1, h2, h3, C, e, fz, h4, h5, h6, fun i hi => ?_⟩
      obtain ⟨a, v, e1, e2, e3, e4⟩ := h7 i hi
      exact ⟨a, v, e1, e2, e3.mono' hext, e4⟩
end
section
variable {T : Type} {enc : TypeId × Value → T} {P : Program} {w : World}
theorem adds_int {t : TypeId} {k : IntKind} (ht : P.underlying t = some (.int k)) : Adds w (TP enc P w t 1) (IntE k) := by
  rintro cs ⟨-, held, n, y, h⟩ Z ρ H hs ro
  obtain ⟨z, rfl, -, hw⟩ := DataW.trod_int ht h
  exact ⟨ρ, H, z, [.int k z], hs, ro, Ext.refl _, Chg.refl H, by simp [RL, R], rfl, rfl, hw⟩
theorem adds_rows {α : Type} {E : Rep α} {p : List Value → Prop} {s len m : Nat} {ad : Addr} (hs : 0 < s) (hE : MonoE E) (hA : Adds w p E) (hp' : ∀ cs, p cs → cs.length = s) (hl : len ≤ m) (hm : m ≤ maxLen) (cell : ∀ i, i < m → ∃ cs', w.cells? 0 (ad.add (i * s)) s = some cs' ∧ p cs') {Z : Nat → Prop} {ρ : Rho} {H : AHeap} (hS : HS Z ρ H w) (ro : RO H) :
    ∃ ρ' H' as l, HS Z ρ' H' w ∧ RO H' ∧ Ext ρ ρ' ∧ Sm H H' ∧ RL ρ' l [.slice (some ad) len m] ∧ l.all AV.flat = true ∧ SlE E s H' as l ∧ as.length = len := by
  by_cases hcap : m = 0
  · subst hcap
    obtain rfl : len = 0 := by omega
    obtain ⟨h1, h2⟩ := add_dead hS (0, 0, 0) ro
    refine ⟨_, _, [], [.slice (some (H.next, 0)) s 0 true], h1, h2, hS.ext_bump _, Chg.new H _, ?_, rfl, ⟨some (H.next, 0), s, true, rfl, .inr rfl, Nat.zero_le _, fun h => absurd rfl h⟩, rfl⟩
    simp only [RL, R]
    exact ⟨_, _, rfl, ⟨0, 0, 0, ad, 0, by simp [bump], rfl, Nat.le_refl _, fun _ => rfl, by omega, fun h => absurd rfl h⟩, rfl⟩
  · obtain ⟨cs0, h0, hp0⟩ := cell 0 (by omega)
    obtain ⟨-, hlen0, hcell0⟩ := World.cells?_some h0
    obtain ⟨b, off, spot⟩ := ad
    have hsome0 : ∃ u, cs0[0]? = some u := ⟨cs0[0]'(by omega), List.getElem?_eq_getElem (by omega)⟩
    obtain ⟨u0, hu0⟩ := hsome0
    have hc0 := hcell0 0 hs
    rw [hu0] at hc0
    have hs' : spot = none := by simpa [Addr.add] using World.cell?_spot hc0
    subst hs'
    have cellA : ∀ i, i < m → ∀ j, j < s → ∀ cs', w.cells? 0 ((⟨b, off, none⟩ : Addr).add (i * s)) s = some cs' → w.cell? ⟨b, off + i * s + j, none⟩ = cs'[j]? := by
      intro i hi j hj cs' h1
      obtain ⟨-, -, hcell⟩ := World.cells?_some h1
      have := hcell j hj
      rwa [add_none' rfl, add_none' rfl] at this
    have hc00 := cellA 0 (by omega) 0 hs cs0 h0
    rw [hu0] at hc00
    obtain ⟨C, e', fz, hg, -⟩ := cell_at hc00
    have cellC : ∀ i, i < m → ∀ j, j < s → ∀ cs', w.cells? 0 ((⟨b, off, none⟩ : Addr).add (i * s)) s = some cs' → C[off + i * s + j]? = cs'[j]? := by
      intro i hi j hj cs' h1
      have h2 := cellA i hi j hj cs' h1
      obtain ⟨-, hlen, -⟩ := World.cells?_some h1
      have h3 : cs'[j]? = some cs'[j] := List.getElem?_eq_getElem (by omega)
      rw [h3] at h2 ⊢
      obtain ⟨C', e2, fz2, hg2, hz2⟩ := cell_at h2
      rw [hg] at hg2; cases hg2
      exact hz2
    -- one by one
    have steps : ∀ k, k ≤ len → ∃ (ρ' : Rho) (H' : AHeap) (as : List α) (l : List AV), HS Z ρ' H' w ∧ RO H' ∧ Ext ρ ρ' ∧ Sm H H' ∧ as.length = k ∧ l.length = k * s ∧ (∀ (j : Nat) v, l[j]? = some v → ∃ u, C[off + j]? = some u ∧ R ρ' v u ∧ v.flat = true) ∧ ∀ j (hj : j < as.length), E H' as[j] ((l.drop (j * s)).take s) := by
      intro k
      induction k with
      | zero => intro _; exact ⟨ρ, H, [], [], hS, ro, Ext.refl _, Chg.refl H, rfl, by simp, by simp, by simp⟩
      | succ k ih =>
        intro hk
        obtain ⟨ρ1, H1, as, l, q1, q2, q3, q4, q5, q6, q7, q8⟩ := ih (by omega)
        obtain ⟨cs', h1, hp⟩ := cell k (by omega)
        obtain ⟨ρ2, H2, a, lk, r1, r2, r3, r4, r5, r6, r7⟩ := hA cs' hp Z ρ1 H1 q1 q2
        have hlk : lk.length = s := by rw [← r5.length, (hp' _ hp)]
        refine ⟨ρ2, H2, as ++ [a], l ++ lk, r1, r2, q3.trans r3, q4.trans r4, by simp [q5], by rw [List.length_append, q6, hlk, Nat.add_mul, Nat.one_mul], fun j v hj => ?_, fun j hj => ?_⟩
        · by_cases hjl : j < l.length
          · rw [List.getElem?_append_left hjl] at hj
            obtain ⟨u, e1, e2, e3⟩ := q7 j v hj
            exact ⟨u, e1, e2.mono' r3, e3⟩
          · rw [List.getElem?_append_right (by omega), q6] at hj
            obtain ⟨u, e1, e2⟩ := r5.get hj
            have hjs : j - k * s < s := by
              have := (List.getElem?_eq_some_iff.1 hj).1; omega
            have h3 := cellC k (by omega) (j - k * s) hjs cs' h1
            rw [e1, show off + k * s + (j - k * s) = off + j by omega] at h3
            exact ⟨u, h3, e2, List.all_eq_true.1 r6 v (List.mem_of_getElem? hj)⟩
        · by_cases hjk : j < as.length
          · rw [List.getElem_append_left hjk]
            have hle : j * s + s ≤ l.length := by
              rw [q6]
              have : (j + 1) * s ≤ k * s := Nat.mul_le_mul_right s (by omega)
              rw [Nat.add_mul] at this; omega
            rw [List.drop_append_of_le_length (by omega), List.take_append_of_le_length (by simp; omega)]
            exact hE _ _ _ _ (q8 j hjk) r4
          · have : j = as.length := by simp at hj; omega
            subst this
            rw [List.getElem_append_right (by omega)]
            simp only [Nat.sub_self, List.getElem_cons_zero]
            rw [q5, ← q6, List.drop_left, List.take_of_length_le (by omega)]
            exact r7
    obtain ⟨ρ1, H1, as, l, q1, q2, q3, q4, q5, q6, q7, q8⟩ := steps len (Nat.le_refl _)
    -- the row
    have hfit : off + m * s ≤ C.size := by
      obtain ⟨cs', h1, hp⟩ := cell (m - 1) (by omega)
      have h3 := cellC (m - 1) (by omega) (s - 1) (by omega) cs' h1
      rw [List.getElem?_eq_getElem (by rw [(hp' _ hp)]; omega)] at h3
      have := (Array.getElem?_eq_some_iff.1 h3).1
      have e : m * s = (m - 1) * s + s := by
        conv => lhs; rw [show m = (m - 1) + 1 by omega, Nat.add_mul, Nat.one_mul]
      omega
    have hls : len * s ≤ m * s := Nat.mul_le_mul_right s hl
    obtain ⟨r1, r2⟩ := add_cellsR q1 q2 hg (cs := l) (off := off) (by omega) q7
    have sN := Chg.new H1 (.cells (ofL l 0 .nil) l.length false [])
    refine ⟨_, _, as, [.slice (some (H1.next, 0)) s len false], r1, r2, q3.trans (q1.ext_bump _), q4.trans sN, ?_, rfl, ⟨some (H1.next, 0), s, false, by rw [q5], .inr rfl, by rw [q5]; omega, fun _ => ⟨H1.next, 0, l, rfl, ?_, by rw [q6, q5], fun j hj => hE _ _ _ _ (q8 j hj) sN⟩⟩, q5⟩
    · simp only [RL, R]
      exact ⟨_, _, rfl, ⟨b, off, C.size, ⟨b, off, none⟩, m, by simp [bump], rfl, hl, fun h => (by cases h), by omega, fun _ => rfl⟩, rfl⟩
    · refine ⟨by simp [next_new], ofL l 0 .nil, l.length, false, [], by rw [get_new, if_pos rfl], by omega, fun j v hj => ?_⟩
      have := (List.getElem?_eq_some_iff.1 hj).1
      rw [get_ofL, if_pos (by omega)]
      simpa using hj
theorem adds_slice {α : Type} {E : Rep α} {t e : TypeId} {s : Nat} (ht : P.underlying t = some (.slice e)) (hc : P.cellsOf e = s) (hs : 0 < s) (hE : MonoE E) (hA : Adds w (TP enc P w e s) E) : Adds w (TP enc P w t 1) (SlE E s) := by
  rintro cs ⟨-, held, fuel, y, h⟩ Z ρ H hS ro
  rcases Go.Deep.open_slice ht h with ⟨rfl, rfl⟩ | ⟨ad, len, cap, m, n, D, Pl, rfl, -, hl, hm, hmm, rfl, hel⟩
  · exact ⟨ρ, H, [], [.slice none 1 0 true], hS, ro, Ext.refl _, Chg.refl H, by simp [RL, R], rfl, none, 1, true, rfl, .inl rfl, Nat.zero_le _, fun h => absurd rfl h⟩
  · rw [if_pos rfl] at hmm
    subst hmm
    rw [hc] at hel
    obtain ⟨ρ', H', as, l, q1, q2, q3, q4, q5, q6, q7, -⟩ := adds_rows hs hE hA (fun cs h => h.1) hl hm (fun i hi => by
      obtain ⟨cs', h1, h2⟩ := hel i hi
      obtain ⟨-, hlen, -⟩ := World.cells?_some h1
      exact ⟨cs', h1, hlen, held, n, _, h2⟩) hS ro
    exact ⟨ρ', H', as, l, q1, q2, q3, q4, q5, q6, q7⟩
end
section
variable {T : Type} {enc : TypeId × Value → T} {P : Program} {w : World}
end
end Go.Proofs.YtojeldemfccilaaGreatDoor.AA
