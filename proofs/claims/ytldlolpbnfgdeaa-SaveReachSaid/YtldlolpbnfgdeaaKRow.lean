/- Opening rows of integers, and of asks. -/
import Derived.Test.YtldlolpbnfgdeaaKMade
import Derived.ProofKit
import Derived.OpenShut
import Derived.ChangeSame
import Derived.Deep.Slices
namespace Go.Proofs.Ytldlolpbnfgdeaa
open Go Go.RowKit Go.ChangeShapes Go.WideShapes Go.ChangeAt

theorem add_none {a : Addr} {b off : Nat} (h : a = ⟨b, off, none⟩) (i : Nat) : a.add i = ⟨b, off + i, none⟩ := by
  subst h
  unfold Addr.add
  split
  · rename_i h0; subst h0; rfl
  · rfl
section
variable {H : Type} {enc : TypeId × Value → H} {P : Program} {w : World}
theorem rd_ints {t e : TypeId} {fuel : Nat} {x : DataW H × List MemPlace} {base : Nat} {spare : Nat → Bool} {held : Bool} (ht : P.underlying t = some (.slice e)) (he : P.underlying e = some (.int .i64)) (hc : P.cellsOf e = 1) {a : Option Addr} {len cap : Nat} (h : DataW.trod enc P w base spare held fuel t [.slice a len cap] = some x) :
    ∃ l : List Int, l.length = len ∧ Rd w 1 l.length (.slice a len cap) (l.map i64v) ∧ (∀ k ∈ l, isI64 k) ∧ l.length ≤ 9223372036854775807 := by
  rcases open_ints ht he hc h with ⟨hcs, -⟩ | ⟨x, ln, c, zs, hcs, -, hl, hm, hz, -, hcell, hwz⟩
  · simp at hcs
    obtain ⟨rfl, rfl, rfl⟩ := hcs
    exact ⟨[], rfl, ⟨rfl, none, 0, rfl, Nat.le_refl _, fun h => by simp at h⟩, by simp, by simp⟩
  · simp at hcs
    obtain ⟨rfl, rfl, rfl⟩ := hcs
    have hle : len ≤ zs.length := by rw [hz]; split <;> omega
    have hll : (zs.take len).length = len := by simp; omega
    refine ⟨zs.take len, hll, ⟨by simp, some x, cap, by rw [hll], by omega, fun hp => ?_⟩, fun k hk => bounds_i64 (hwz k (List.mem_of_mem_take hk)), by simp only [maxLen] at hm; omega⟩
    have h0 := hcell 0 (by omega)
    obtain ⟨b, off, spot⟩ := x
    have hs : spot = none := by simpa [Addr.add] using World.cell?_spot h0
    subst hs
    refine ⟨b, off, rfl, World.block_lt_of_cell? w _ h0, fun j u hu => ?_⟩
    rw [List.getElem?_map] at hu
    have hj : j < len := by
      by_cases hj : j < len
      · exact hj
      · rw [List.getElem?_eq_none (by omega)] at hu; cases hu
    have := hcell j (by omega)
    rw [add_none rfl] at this
    rw [this]
    rw [List.getElem?_take, if_pos hj, List.getElem?_eq_getElem (by omega)] at hu
    simp only [Option.map_some, i64v] at hu
    rw [← hu, List.getD_eq_getElem?_getD, List.getElem?_eq_getElem (by omega)]
    rfl
theorem cells4 {base : Nat} {a : Addr} {cs : List Value} (h : w.cells? base a 4 = some cs) : ∃ c0 c1 c2 c3, cs = [c0, c1, c2, c3] ∧ w.cell? (a.add 0) = some c0 ∧ w.cell? (a.add 1) = some c1 ∧ w.cell? (a.add 2) = some c2 ∧ w.cell? (a.add 3) = some c3 := by
  unfold World.cells? at h
  split at h
  · cases h0 : w.cell? (a.add 0) <;> cases h1 : w.cell? (a.add 1) <;> cases h2 : w.cell? (a.add 2) <;> cases h3 : w.cell? (a.add 3) <;> simp [List.range_succ, h0, h1, h2, h3] at h
    exact ⟨_, _, _, _, h.symm, rfl, rfl, rfl, rfl⟩
  · cases h
theorem askV_at (l : List Ask) : ∀ (j : Nat) (u : Value), (l.flatMap askV)[j]? = some u → ∃ a, l[j / 4]? = some a ∧ (askV a)[j % 4]? = some u := by
  induction l with
  | nil => intro j u h; simp at h
  | cons a l ih =>
    intro j u h
    rw [List.flatMap_cons] at h
    by_cases hj : j < 4
    · rw [List.getElem?_append_left (by simpa [askV] using hj)] at h
      rw [Nat.div_eq_of_lt hj, Nat.mod_eq_of_lt hj]
      exact ⟨a, rfl, h⟩
    · rw [List.getElem?_append_right (by simp [askV]; omega)] at h
      have := ih (j - 4) u (by simpa [askV] using h)
      obtain ⟨b, h1, h2⟩ := this
      refine ⟨b, ?_, ?_⟩
      · rw [show j / 4 = (j - 4) / 4 + 1 by omega]; exact h1
      · rw [show j % 4 = (j - 4) % 4 by omega]; exact h2
theorem rd_asks {t e i : TypeId} {fuel : Nat} {x : DataW H × List MemPlace} {base : Nat} {spare : Nat → Bool} {held : Bool} {f0 f1 f2 f3 : Field} (ht : P.underlying t = some (.slice e)) (he : P.underlying e = some (.struct #[f0, f1, f2, f3])) (hc : P.cellsOf e = 4)
    (hi : P.underlying i = some (.int .i64)) (hci : P.cellsOf i = 1) (hf : f0.type = i ∧ f0.offset = 0 ∧ f1.type = i ∧ f1.offset = 1 ∧ f2.type = i ∧ f2.offset = 2 ∧ f3.type = i ∧ f3.offset = 3) {a : Option Addr} {len cap : Nat} (h : DataW.trod enc P w base spare held fuel t [.slice a len cap] = some x) :
    ∃ l : List Ask, l.length = len ∧ Rd w 4 l.length (.slice a len cap) (l.flatMap askV) ∧ (∀ k ∈ l, AskOk k) ∧ l.length ≤ 9223372036854775807 := by
  rcases Go.Deep.open_slice ht h with ⟨hcs, -⟩ | ⟨x, ln, c, m, n, D, Pl, hcs, -, hl, hm, hmm, -, hel⟩
  · simp at hcs
    obtain ⟨rfl, rfl, rfl⟩ := hcs
    exact ⟨[], rfl, ⟨rfl, none, 0, rfl, Nat.le_refl _, fun h => by simp at h⟩, by simp, by simp⟩
  · simp at hcs
    obtain ⟨rfl, rfl, rfl⟩ := hcs
    have hle : len ≤ m := by rw [hmm]; split <;> omega
    rw [hc] at hel
    have each : ∀ i, i < len → ∃ k : Ask, AskOk k ∧ w.cell? ((x.add (i * 4)).add 0) = some (.int .i64 k.K) ∧ w.cell? ((x.add (i * 4)).add 1) = some (.int .i64 k.I) ∧ w.cell? ((x.add (i * 4)).add 2) = some (.int .i64 k.J) ∧ w.cell? ((x.add (i * 4)).add 3) = some (.int .i64 k.N) := by
      intro i' hi'
      obtain ⟨cs', hcs', htr⟩ := hel i' (by omega)
      obtain ⟨c0, c1, c2, c3, rfl, g0, g1, g2, g3⟩ := cells4 hcs'
      obtain ⟨xs, n', -, -, -, hxl, hfs⟩ := DataW.trod_struct he htr
      obtain ⟨e0, e0', e1, e1', e2, e2', e3, e3'⟩ := hf
      match xs, hxl with
      | [y0, y1, y2, y3], _ =>
        have q0 := hfs 0 f0 rfl
        have q1 := hfs 1 f1 rfl
        have q2 := hfs 2 f2 rfl
        have q3 := hfs 3 f3 rfl
        rw [e0, e0', hci] at q0
        rw [e1, e1', hci] at q1
        rw [e2, e2', hci] at q2
        rw [e3, e3', hci] at q3
        obtain ⟨z0, r0, -, s0⟩ := DataW.trod_int hi (by simpa using q0)
        obtain ⟨z1, r1, -, s1⟩ := DataW.trod_int hi (by simpa using q1)
        obtain ⟨z2, r2, -, s2⟩ := DataW.trod_int hi (by simpa using q2)
        obtain ⟨z3, r3, -, s3⟩ := DataW.trod_int hi (by simpa using q3)
        simp at r0 r1 r2 r3
        subst r0 r1 r2 r3
        exact ⟨⟨z0, z1, z2, z3⟩, ⟨bounds_i64 s0, bounds_i64 s1, bounds_i64 s2, bounds_i64 s3⟩, g0, g1, g2, g3⟩
    have hA : ∃ f : Nat → Ask, ∀ i, i < len → AskOk (f i) ∧ w.cell? ((x.add (i * 4)).add 0) = some (.int .i64 (f i).K) ∧ w.cell? ((x.add (i * 4)).add 1) = some (.int .i64 (f i).I) ∧ w.cell? ((x.add (i * 4)).add 2) = some (.int .i64 (f i).J) ∧ w.cell? ((x.add (i * 4)).add 3) = some (.int .i64 (f i).N) := by
      refine ⟨fun i => if h : i < len then (each i h).choose else ⟨0, 0, 0, 0⟩, fun i hi' => ?_⟩
      simp only [dif_pos hi']
      exact (each i hi').choose_spec
    obtain ⟨f, hf'⟩ := hA
    have hll : ((List.range len).map f).length = len := by simp
    have hfl : ((List.range len).map f |>.flatMap askV).length = len * 4 := by
      have : ∀ l : List Ask, (l.flatMap askV).length = l.length * 4 := by
        intro l
        induction l with
        | nil => rfl
        | cons a l ih => rw [List.flatMap_cons, List.length_append, ih]; simp [askV]; omega
      rw [this, hll]
    refine ⟨(List.range len).map f, hll, ⟨by rw [hfl, hll], some x, cap, by rw [hll], by omega, fun hp => ?_⟩, fun k hk => ?_, by simp only [maxLen] at hm; omega⟩
    · have h0 := (hf' 0 (by omega)).2.1
      obtain ⟨b, off, spot⟩ := x
      have hs : spot = none := by simpa [Addr.add] using World.cell?_spot h0
      subst hs
      have hb : b < w.heap.size := by
        have := World.block_lt_of_cell? w _ h0
        simpa [Addr.add] using this
      refine ⟨b, off, rfl, hb, fun j u hu => ?_⟩
      have hj : j < len * 4 := by
        by_cases hj : j < len * 4
        · exact hj
        · rw [List.getElem?_eq_none (by omega)] at hu; cases hu
      obtain ⟨a', h1, h2⟩ := askV_at _ j u hu
      have hj4 : j / 4 < len := by omega
      rw [List.getElem?_map, List.getElem?_range hj4] at h1
      simp only [Option.map_some, Option.some.injEq] at h1
      subst h1
      obtain ⟨-, g0, g1, g2, g3⟩ := hf' (j / 4) hj4
      rw [add_none rfl, add_none rfl] at g0 g1 g2 g3
      have hr : j % 4 = 0 ∨ j % 4 = 1 ∨ j % 4 = 2 ∨ j % 4 = 3 := by omega
      unfold askV at h2
      rcases hr with hr | hr | hr | hr <;> rw [hr] at h2 <;> simp at h2 <;> subst h2
      · rw [show off + j = off + j / 4 * 4 + 0 by omega]; exact g0
      · rw [show off + j = off + j / 4 * 4 + 1 by omega]; exact g1
      · rw [show off + j = off + j / 4 * 4 + 2 by omega]; exact g2
      · rw [show off + j = off + j / 4 * 4 + 3 by omega]; exact g3
    · obtain ⟨i', hi', rfl⟩ := List.mem_map.1 hk
      exact (hf' i' (List.mem_range.1 hi')).1
end
end Go.Proofs.Ytldlolpbnfgdeaa
