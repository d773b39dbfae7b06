/- From the calculus to the program; what comes in. -/
import Derived.Test.YtldlolpbnfgdeaaKCalA
import Derived.OpenShut
import Derived.Deep.Slices
import Derived.SizedLaws
set_option linter.unusedSimpArgs false
set_option linter.unusedVariables false
namespace Go.Proofs.Ytldlolpbnfgdeaa.AA
open Go Go.RowKit Go.WideShapes
set_option maxRecDepth 100000
/-! From the calculus to a program. -/
theorem callA_ok {P : Program} {M : Mach} (hmx : P.follows .mixedOrders = true) (hora : CallOK P M.ora) (hfs : ∀ f fn, M.fs f = some fn → ckFunc P f fn = true) (hms : ckMeth P M.ms) (n : Nat) : CallOK P (callA M n) :=
  call_rec_ok (n := n) hora hfs fun nt c ac fr H ex fr' H' h1 h2 Z ρ w a Q h3 h4 h5 => code_sim hmx hora hfs hms n nt c ac fr H ex fr' H' h1 h2 Z ρ w a Q h3 h4 h5
/-- What the calculus says of a call, the program does. -/
theorem calls_of_CW {P : Program} {M : Mach} (hmx : P.follows .mixedOrders = true) (hora : CallOK P M.ora) (hfs : ∀ f fn, M.fs f = some fn → ckFunc P f fn = true) (hms : ckMeth P M.ms) {f : Nat} {args : List AV} {H : AHeap} {Q : AV → AHeap → Prop} {vs : Array Value} {Z : Nat → Prop} {ρ : Rho} {w : World}
    (h : CW M f args H Q) (hs : HS Z ρ H w) (hr : RL ρ args vs.toList) : Calls P f vs w fun e w' => ∃ ρ' u v H', e = .returned u ∧ Ext ρ ρ' ∧ HS Z ρ' H' w' ∧ Kp Z w w' ∧ R ρ' v u ∧ Q v H' := by
  obtain ⟨v, H', ⟨n0, h1⟩, h2⟩ := h
  refine ((callA_ok hmx hora hfs hms n0 f args H v H' (h1 n0 (Nat.le_refl _))).2 Z ρ w vs hs hr).mono ?_
  rintro e w' ⟨ρ', u, rfl, q1, q2, q3, q4⟩
  exact ⟨ρ', u, v, H', rfl, q1, q2, q3, q4, h2⟩
/-! What comes in: rows that are only looked at. -/
def RO (H : AHeap) : Prop := (∀ b c n par, H.get b ≠ .cells c n true par) ∧ ∀ b es k, H.get b ≠ .map es k
theorem RO.empty : RO ⟨0, .nil⟩ := by
  have hg : ∀ b, (⟨0, .nil⟩ : AHeap).get b = .dead := fun b => by simp [AHeap.get, Tr.get]
  exact ⟨fun b c n par h => (by rw [hg] at h; cases h), fun b es k h => (by rw [hg] at h; cases h)⟩
section
variable {Z : Nat → Prop} {ρ : Rho} {H : AHeap} {w : World}
theorem Chg.new (H : AHeap) (x : ABlk) : Chg H (H.new x) none := ⟨by simp [next_new], fun y hy => ⟨.inl (by rw [get_new, if_neg (by omega)]), fun _ => by rw [get_new, if_neg (by omega)]⟩⟩
theorem add_dead (h : HS Z ρ H w) (x : Nat × Nat × Nat) (ro : RO H) : HS Z (bump ρ H.next x) (H.new .dead) w ∧ RO (H.new .dead) := by
  have hold : ∀ b, b ≠ H.next → bump ρ H.next x b = ρ b := fun b hb => by simp [bump, hb]
  have hext := h.ext_bump x
  have hne : ∀ b y, ρ b = some y → b ≠ H.next := fun b y hb e => by have := (h.dom b y hb).1; omega
  have ro' : RO (H.new .dead) := by
    refine ⟨fun b c n par hb => ?_, fun b es k hb => ?_⟩
    · rw [get_new] at hb
      split at hb
      · cases hb
      · exact ro.1 b c n par hb
    · rw [get_new] at hb
      split at hb
      · cases hb
      · exact ro.2 b es k hb
  refine ⟨⟨fun b y hb => ⟨?_, trivial⟩, fun b c n own par hb => ?_, fun b es k hb => absurd hb (ro'.2 b es k), fun b c n par hb => absurd hb (ro'.1 b c n par), fun b es k hb => absurd hb (ro'.2 b es k), h.zb⟩, ro'⟩
  · show b < H.next + 1
    by_cases e : b = H.next
    · omega
    · rw [hold b e] at hb
      have := (h.dom b y hb).1; omega
  · rw [get_new] at hb
    split at hb
    · cases hb
    · obtain ⟨g, o, N, h1, h2, h3, C, e, fz, h4, h5, h6, h7⟩ := h.cells b c n own par hb
      refine ⟨g, o, N, hext _ _ h1, h2, h3, C, e, fz, h4, h5, h6, fun i hi => ?_⟩
      obtain ⟨a, v, e1, e2, e3, e4⟩ := h7 i hi
      exact ⟨a, v, e1, e2, e3.mono' hext, e4⟩
theorem add_cells (h : HS Z ρ H w) (ro : RO H) {b off : Nat} {C : Array Value} {e : TypeId} {fz : Nat × Nat} (hg : w.heap[b]? = some (.cells C e fz)) {cs : List AV} (hl : off + cs.length ≤ C.size)
    (hc : ∀ (j : Nat) v, cs[j]? = some v → ∃ k n, v = .int k n ∧ C[off + j]? = some (.int k n)) : HS Z (bump ρ H.next (b, off, C.size)) (H.new (.cells (ofL cs 0 .nil) cs.length false [])) w ∧ RO (H.new (.cells (ofL cs 0 .nil) cs.length false [])) := by
  have hold : ∀ b', b' ≠ H.next → bump ρ H.next (b, off, C.size) b' = ρ b' := fun b' hb => by simp [bump, hb]
  have hself : bump ρ H.next (b, off, C.size) H.next = some (b, off, C.size) := by simp [bump]
  have hext := h.ext_bump (b, off, C.size)
  have ro' : RO (H.new (.cells (ofL cs 0 .nil) cs.length false [])) := by
    refine ⟨fun b c n par hb => ?_, fun b es k hb => ?_⟩
    · rw [get_new] at hb
      split at hb
      · cases hb
      · exact ro.1 b c n par hb
    · rw [get_new] at hb
      split at hb
      · cases hb
      · exact ro.2 b es k hb
  refine ⟨⟨fun b' y hb => ⟨?_, trivial⟩, fun b' c n own par hb => ?_, fun b es k hb => absurd hb (ro'.2 b es k), fun b c n par hb => absurd hb (ro'.1 b c n par), fun b es k hb => absurd hb (ro'.2 b es k), h.zb⟩, ro'⟩
  · show b' < H.next + 1
    by_cases e : b' = H.next
    · omega
    · rw [hold b' e] at hb
      have := (h.dom b' y hb).1; omega
  · rw [get_new] at hb
    split at hb
    · rename_i e'
      subst e'
      cases hb
      refine ⟨b, off, C.size, hself, hl, fun h => (by cases h), C, e, fz, hg, rfl, fun h => (by cases h), fun i hi => ?_⟩
      obtain ⟨k, n, q1, q2⟩ := hc i cs[i] (List.getElem?_eq_getElem hi)
      refine ⟨.int k n, .int k n, ?_, q2, by simp only [R], rfl⟩
      rw [get_ofL, if_pos (by omega), Nat.sub_zero, List.getElem?_eq_getElem hi, q1]
    · obtain ⟨g, o, N, h1, h2, h3, C, e, fz, h4, h5, h6, h7⟩ := h.cells b' c n own par hb
      refine ⟨g, o, N, hext _ _ h1, h2, h3, C, e, fz, h4, h5, h6, fun i hi => ?_⟩
      obtain ⟨a, v, e1, e2, e3, e4⟩ := h7 i hi
      exact ⟨a, v, e1, e2, e3.mono' hext, e4⟩
/-- A row of the world's, taken in. -/
def RowAt (w : World) (a : Option Addr) (len cap s : Nat) (cs : List AV) : Prop := cs.length = len * s ∧ ((a = none ∧ len = 0 ∧ cap = 0) ∨ (∃ ad, a = some ad ∧ len = 0 ∧ cap = 0) ∨ ∃ b off C e fz, a = some ⟨b, off, none⟩ ∧ w.heap[b]? = some (.cells C e fz) ∧ len ≤ cap ∧ off + cap * s ≤ C.size ∧ ∀ (j : Nat) v, cs[j]? = some v → ∃ k n, v = .int k n ∧ C[off + j]? = some (.int k n))
theorem add_row (h : HS Z ρ H w) (ro : RO H) {a : Option Addr} {len cap s : Nat} {cs : List AV} (hr : RowAt w a len cap s cs) : ∃ ρ' H' v, HS Z ρ' H' w ∧ RO H' ∧ Ext ρ ρ' ∧ Chg H H' none ∧ R ρ' v (.slice a len cap) ∧ Sv H' v len cs := by
  obtain ⟨hl, ⟨rfl, rfl, rfl⟩ | ⟨ad, rfl, rfl, rfl⟩ | ⟨b, off, C, e, fz, rfl, hg, hle, hN, hc⟩⟩ := hr
  · exact ⟨ρ, H, .slice none 1 0 true, h, ro, Ext.refl _, Chg.refl H, by simp [R], none, 1, true, rfl, fun h => absurd rfl h⟩
  · obtain ⟨h1, h2⟩ := add_dead h (0, 0, 0) ro
    refine ⟨_, _, .slice (some (H.next, 0)) s 0 true, h1, h2, h.ext_bump _, Chg.new H _, ?_, some (H.next, 0), s, true, rfl, fun h => absurd rfl h⟩
    simp only [R]
    exact ⟨0, 0, 0, ad, 0, by simp [bump], rfl, Nat.le_refl _, fun _ => rfl, by omega, fun h => absurd rfl h⟩
  · have hsl : len * s ≤ cap * s := Nat.mul_le_mul_right s hle
    obtain ⟨h1, h2⟩ := add_cells h ro hg (cs := cs) (by omega) hc
    refine ⟨_, _, .slice (some (H.next, 0)) s len false, h1, h2, h.ext_bump _, Chg.new H _, ?_, some (H.next, 0), s, false, rfl, fun _ => ⟨H.next, 0, rfl, ?_⟩⟩
    · simp only [R]
      exact ⟨b, off, C.size, ⟨b, off, none⟩, cap, by simp [bump], rfl, hle, fun h => (by cases h), by omega, fun _ => rfl⟩
    · refine ⟨by simp [next_new], ofL cs 0 .nil, cs.length, false, [], by rw [get_new, if_pos rfl], by omega, fun j v hj => ?_⟩
      have := (List.getElem?_eq_some_iff.1 hj).1
      rw [get_ofL, if_pos (by omega)]
      simpa using hj
end
section
variable {T : Type} {enc : TypeId × Value → T} {P : Program} {w : World}
theorem cell_at {b off : Nat} {u : Value} (h : w.cell? ⟨b, off, none⟩ = some u) : ∃ C e fz, w.heap[b]? = some (.cells C e fz) ∧ C[off]? = some u := by
  unfold World.cell? at h
  simp only [Option.isSome_none, Bool.false_eq_true, if_false] at h
  split at h
  · rename_i C e fz hg
    exact ⟨C, e, fz, hg, h⟩
  · cases h
theorem add_none' {a : Addr} {b off : Nat} (h : a = ⟨b, off, none⟩) (i : Nat) : a.add i = ⟨b, off + i, none⟩ := by
  subst h
  unfold Addr.add
  split
  · rename_i h0; subst h0; rfl
  · rfl
/-- Rows of elements that are integers, cell by cell. -/
theorem row_of {t e : TypeId} {fuel s : Nat} {x : DataW T × List MemPlace} {held : Bool} (ht : P.underlying t = some (.slice e)) (hc : P.cellsOf e = s) (hs : 0 < s)
    (each : ∀ n cs y, DataW.trod enc P w 0 (fun _ => true) held n e cs = some y → cs.length = s → ∀ j, j < s → ∃ z : Int, cs[j]? = some (.int .i64 z))
    {a : Option Addr} {len cap : Nat} (h : DataW.trod enc P w 0 (fun _ => true) held fuel t [.slice a len cap] = some x) :
    (∃ f : Nat → Int, RowAt w a len cap s ((List.range (len * s)).map fun j => iv (f j))) ∧ ((x.1 = .nil ∧ cap = 0) ∨ ∃ elems spare, x.1 = .slice elems spare ∧ elems.length + spare.length = cap) ∧ len ≤ cap := by
  rcases Go.Deep.open_slice ht h with ⟨hcs, rfl⟩ | ⟨ad, ln, c, m, n, D, Pl, hcs, -, hl, hm, hmm, rfl, hel⟩
  · simp at hcs
    obtain ⟨rfl, rfl, rfl⟩ := hcs
    exact ⟨⟨fun _ => 0, by simp, .inl ⟨rfl, rfl, rfl⟩⟩, .inl ⟨rfl, rfl⟩, Nat.le_refl _⟩
  · simp at hcs
    obtain ⟨rfl, rfl, rfl⟩ := hcs
    have hmc : m = cap := by rw [hmm, if_pos rfl]
    subst hmc
    refine ⟨?_, .inr ⟨_, _, rfl, by simp; omega⟩, hl⟩
    by_cases hcap : m = 0
    · subst hcap
      obtain rfl : len = 0 := by omega
      exact ⟨fun _ => 0, by simp, .inr (.inl ⟨ad, rfl, rfl, rfl⟩)⟩
    · rw [hc] at hel
      have cell : ∀ i, i < m → ∀ j, j < s → ∃ z : Int, w.cell? ((ad.add (i * s)).add j) = some (.int .i64 z) := by
        intro i hi j hj
        obtain ⟨cs', h1, h2⟩ := hel i hi
        obtain ⟨-, hlen, hcell⟩ := World.cells?_some h1
        obtain ⟨z, hz⟩ := each n cs' _ h2 hlen j hj
        refine ⟨z, ?_⟩
        have := hcell j hj
        rw [this]
        exact hz
      obtain ⟨z0, h0⟩ := cell 0 (by omega) 0 hs
      obtain ⟨b, off, spot⟩ := ad
      have hs' : spot = none := by simpa [Addr.add] using World.cell?_spot h0
      subst hs'
      have cell2 : ∀ j, j < m * s → ∃ z : Int, w.cell? ⟨b, off + j, none⟩ = some (.int .i64 z) := by
        intro j hj
        have h1 : j / s < m := by rw [Nat.div_lt_iff_lt_mul hs]; exact hj
        obtain ⟨z, hz⟩ := cell (j / s) h1 (j % s) (Nat.mod_lt _ hs)
        rw [add_none' rfl, add_none' rfl, Nat.add_assoc, Nat.mul_comm, Nat.div_add_mod] at hz
        exact ⟨z, hz⟩
      have hpos : 0 < m * s := Nat.mul_pos (by omega) hs
      obtain ⟨z1, h1⟩ := cell2 0 hpos
      obtain ⟨C, e', fz, hg, -⟩ := cell_at h1
      have cell3 : ∀ j, j < m * s → ∃ z : Int, C[off + j]? = some (.int .i64 z) := by
        intro j hj
        obtain ⟨z, hz⟩ := cell2 j hj
        obtain ⟨C', e2, fz2, hg2, hz2⟩ := cell_at hz
        rw [hg] at hg2; cases hg2
        exact ⟨z, hz2⟩
      refine ⟨fun j => if h : j < m * s then (cell3 j h).choose else 0, by simp, .inr (.inr ⟨b, off, C, e', fz, rfl, hg, hl, ?_, fun j v hj => ?_⟩)⟩
      · obtain ⟨z, hz⟩ := cell3 (m * s - 1) (by omega)
        have := (Array.getElem?_eq_some_iff.1 hz).1
        omega
      · have hjl := (List.getElem?_eq_some_iff.1 hj).1
        simp only [List.length_map, List.length_range] at hjl
        have hle : len * s ≤ m * s := Nat.mul_le_mul_right s hl
        rw [List.getElem?_map, List.getElem?_range hjl] at hj
        simp only [Option.map_some, Option.some.injEq, dif_pos (show j < m * s by omega)] at hj
        subst hj
        exact ⟨_, _, rfl, (cell3 j (by omega)).choose_spec⟩
theorem each_int {t : TypeId} {held : Bool} (ht : P.underlying t = some (.int .i64)) (n : Nat) (cs : List Value) (y : DataW T × List MemPlace) (h : DataW.trod enc P w 0 (fun _ => true) held n t cs = some y) (_ : cs.length = 1) (j : Nat) (hj : j < 1) : ∃ z : Int, cs[j]? = some (.int .i64 z) := by
  obtain ⟨z, rfl, -⟩ := DataW.trod_int ht h
  obtain rfl : j = 0 := by omega
  exact ⟨z, rfl⟩
end
section
variable {Z : Nat → Prop} {ρ : Rho} {H : AHeap} {w w' : World}
theorem Kp.of_below (h : Below w.heap.size w w') : Kp (fun k => k < w.heap.size) w w' := ⟨h.os, h.tape, h.output, h.size, fun j hj _ => h.block j hj⟩
/-- A new block of the world's, that is only looked at. -/
theorem add_fresh (h : HS Z ρ H w) (k : Kp (fun k => k < w.heap.size) w w') {b : Nat} {C : Array Value} {e : TypeId} {fz : Nat × Nat} (hge : w.heap.size ≤ b) (hg : w'.heap[b]? = some (.cells C e fz)) {cs : List AV} {n : Nat} (hn : cs.length = n) (hl : n ≤ C.size)
    (hc : ∀ (j : Nat) v, cs[j]? = some v → ∃ k n, v = .int k n ∧ C[j]? = some (.int k n)) : HS Z (bump ρ H.next (b, 0, C.size)) (H.new (.cells (ofL cs 0 .nil) n false [])) w' := by
  subst hn
  have h' := h.keep k
  have hold : ∀ b', b' ≠ H.next → bump ρ H.next (b, 0, C.size) b' = ρ b' := fun b' hb => by simp [bump, hb]
  have hself : bump ρ H.next (b, 0, C.size) H.next = some (b, 0, C.size) := by simp [bump]
  have hext := h.ext_bump (b, 0, C.size)
  have hdead : ∀ b', b' ≠ H.next → (H.new (.cells (ofL cs 0 .nil) cs.length false [])).get b' = H.get b' := fun b' hb => by rw [get_new, if_neg (Ne.symm hb)]
  refine ⟨fun b' y hb => ⟨?_, trivial⟩, fun b' c n own par hb => ?_, fun b' es k' hb => ?_, fun b1 c1 n1 par1 hb1 b2 c2 n2 own2 par2 hne hb2 g1 o1 N1 o2 N2 r1 r2 => ?_, fun b1 es1 k1 hb1 b2 es2 k2 hne hb2 g1 o1 N1 o2 N2 r1 r2 => ?_, h'.zb⟩
  · show b' < H.next + 1
    by_cases e : b' = H.next
    · omega
    · rw [hold b' e] at hb
      have := (h.dom b' y hb).1; omega
  · by_cases e' : b' = H.next
    · subst e'
      rw [get_new, if_pos rfl] at hb
      cases hb
      refine ⟨b, 0, C.size, hself, by omega, fun h => (by cases h), C, e, fz, hg, rfl, fun h => (by cases h), fun i hi => ?_⟩
      obtain ⟨k, n, q1, q2⟩ := hc i cs[i] (List.getElem?_eq_getElem hi)
      refine ⟨.int k n, .int k n, ?_, by rw [Nat.zero_add]; exact q2, by simp only [R], rfl⟩
      rw [get_ofL, if_pos (by omega), Nat.sub_zero, List.getElem?_eq_getElem hi, q1]
    · rw [hdead b' e'] at hb
      obtain ⟨g, o, N, h1, h2, h3, C, e, fz, h4, h5, h6, h7⟩ := h'.cells b' c n own par hb
      refine ⟨g, o, N, hext _ _ h1, h2, h3, C, e, fz, h4, h5, h6, fun i hi => ?_⟩
      obtain ⟨a, v, e1, e2, e3, e4⟩ := h7 i hi
      exact ⟨a, v, e1, e2, e3.mono' hext, e4⟩
  · by_cases e' : b' = H.next
    · subst e'; rw [get_new, if_pos rfl] at hb; cases hb
    · rw [hdead b' e'] at hb
      obtain ⟨g, o, N, h1, h2, E, h3, h4⟩ := h'.maps b' es k' hb
      exact ⟨g, o, N, hext _ _ h1, h2, E, h3, RE.mono hext h4⟩
  · by_cases e1 : b1 = H.next
    · subst e1; rw [get_new, if_pos rfl] at hb1; cases hb1
    · rw [hdead b1 e1] at hb1
      rw [hold b1 e1] at r1
      by_cases e2 : b2 = H.next
      · subst e2
        rw [hself] at r2; cases r2
        have := h.ltc hb1 r1
        simp at this; omega
      · rw [hdead b2 e2] at hb2
        rw [hold b2 e2] at r2
        exact h.own b1 c1 n1 par1 hb1 b2 c2 n2 own2 par2 hne hb2 g1 o1 N1 o2 N2 r1 r2
  · by_cases e1 : b1 = H.next
    · subst e1; rw [get_new, if_pos rfl] at hb1; cases hb1
    · by_cases e2 : b2 = H.next
      · subst e2; rw [get_new, if_pos rfl] at hb2; cases hb2
      · rw [hdead b1 e1] at hb1
        rw [hdead b2 e2] at hb2
        rw [hold b1 e1] at r1
        rw [hold b2 e2] at r2
        exact h.mapown b1 es1 k1 hb1 b2 es2 k2 hne hb2 g1 o1 N1 o2 N2 r1 r2
end
/-- A law that answers true, whatever stands in the heap that its arguments want. -/
theorem law_true_of {P : Program} {M : Mach} (hmx : P.follows .mixedOrders = true) (hora : CallOK P M.ora) (hfs : ∀ f fn, M.fs f = some fn → ckFunc P f fn = true) (hms : ckMeth P M.ms) {f : Nat} {args : List AV} {H : AHeap} {vs : Array Value} {ρ : Rho} {w : World}
    (h : CW M f args H fun u _ => u = .bool true) (hs : HS (fun k => k < w.heap.size) ρ H w) (hr : RL ρ args vs.toList) :
    Calls P f vs w fun e w' => e = .returned (.bool true) ∧ Kp (fun k => k < w.heap.size) w w' := by
  refine (calls_of_CW hmx hora hfs hms h hs hr).mono ?_
  rintro e w' ⟨ρ', u, v, H', rfl, -, -, k, hr', rfl⟩
  simp only [R] at hr'
  subst hr'
  exact ⟨rfl, k⟩
end Go.Proofs.Ytldlolpbnfgdeaa.AA
namespace Go.Proofs.Ytldlolpbnfgdeaa.AA
open Go Go.RowKit Go.WideShapes
section
variable {T : Type} {enc : TypeId × Value → T} {P : Program} {w : World}
/-- Structs of three whole numbers. -/
theorem each_three {e i : TypeId} {held : Bool} {f0 f1 f2 : Field} (he : P.underlying e = some (.struct #[f0, f1, f2])) (hi : P.underlying i = some (.int .i64)) (hci : P.cellsOf i = 1)
    (hf : f0.type = i ∧ f0.offset = 0 ∧ f1.type = i ∧ f1.offset = 1 ∧ f2.type = i ∧ f2.offset = 2)
    (n : Nat) (cs : List Value) (y : DataW T × List MemPlace) (h : DataW.trod enc P w 0 (fun _ => true) held n e cs = some y) (hl : cs.length = 3) (j : Nat) (hj : j < 3) : ∃ z : Int, cs[j]? = some (.int .i64 z) := by
  obtain ⟨xs, n', -, -, -, hxl, hfs⟩ := DataW.trod_struct he h
  obtain ⟨e0, e0', e1, e1', e2, e2'⟩ := hf
  match xs, hxl, cs, hl with
  | [y0, y1, y2], _, [c0, c1, c2], _ =>
    have q0 := hfs 0 f0 rfl
    have q1 := hfs 1 f1 rfl
    have q2 := hfs 2 f2 rfl
    rw [e0, e0', hci] at q0
    rw [e1, e1', hci] at q1
    rw [e2, e2', hci] at q2
    obtain ⟨z0, r0, -, s0⟩ := DataW.trod_int hi (by simpa using q0)
    obtain ⟨z1, r1, -, s1⟩ := DataW.trod_int hi (by simpa using q1)
    obtain ⟨z2, r2, -, s2⟩ := DataW.trod_int hi (by simpa using q2)
    simp at r0 r1 r2
    subst r0 r1 r2
    match j, hj with
    | 0, _ => exact ⟨z0, rfl⟩
    | 1, _ => exact ⟨z1, rfl⟩
    | 2, _ => exact ⟨z2, rfl⟩
end
end Go.Proofs.Ytldlolpbnfgdeaa.AA
