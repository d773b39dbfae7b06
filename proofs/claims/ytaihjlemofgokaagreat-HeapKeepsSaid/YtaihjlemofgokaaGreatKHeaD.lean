/- The memory: its model; what lies where; fields. -/
import Derived.Test.YtaihjlemofgokaaGreatKHeaC
set_option linter.unusedSimpArgs false
set_option linter.unusedVariables false
namespace Go.Proofs.YtaihjlemofgokaaGreat.AA
open Go Go.RowKit
set_option maxRecDepth 100000
abbrev Ob := Int × List Int
structure HM where
  g : TG
  M : Nat → Ml
  X : Pl → Ob
def szP (f : Int) : Int := if f < 0 then -1 else if f ≤ 2 then 0 else if f ≤ 6 then 1 else if f ≤ 14 then 2 else if f ≤ 30 then 3 else if f ≤ 62 then 4 else -1
def wds (s : Nat) : Nat := 4 * 2 ^ s
def idP (w : Int) : Option Int := if w % 2 = 1 ∨ w = 0 then none else some (w / 2)
def shadeM (h : HM) (w : Int) : HM := match idP w with
  | none => h
  | some i => match h.g i with
    | none => h
    | some p => { h with M := upd h.M p.1.toNat (shM (h.M p.1.toNat) p.2) }
noncomputable def allocM (h : HM) (c f : Int) : Int × HM := if szP f < 0 ∨ c < 0 ∨ 4095 < c then (-1, h) else match h.M (szP f).toNat 0 with
  | [] => (-1, h)
  | i :: _ => ((tk h.g (szP f, i)).1, ⟨(tk h.g (szP f, i)).2, upd h.M (szP f).toNat (mv (h.M (szP f).toNat) i 1), fset h.X (szP f, i) (c, List.replicate f.toNat 2)⟩)
def obM (h : HM) (i : Int) : Option Ob := (h.g i).map h.X
def getM (h : HM) (i k : Int) : Option Int := match obM h i with
  | none => none
  | some x => if 0 ≤ k then x.2[k.toNat]? else none
def colorM (h : HM) (i : Int) : Int := match h.g i with
  | none => -1
  | some p => colM (h.M p.1.toNat) p.2
def putM (h : HM) (i k w : Int) : Bool × HM := match h.g i with
  | none => (false, h)
  | some p => if 0 ≤ k ∧ k < (h.X p).2.length ∧ w ≠ 0 then
      (true, if colM (h.M p.1.toNat) p.2 = 1 then shadeM { h with X := fset h.X p ((h.X p).1, (h.X p).2.set k.toNat w) } w else { h with X := fset h.X p ((h.X p).1, (h.X p).2.set k.toNat w) })
    else (false, h)
def swapM (h : HM) (a b : Int) : Bool × HM := if (h.g a).isSome && (h.g b).isSome then
    (true, if ((colorM h a == 3) != (colorM h b == 3)) = true then shadeM (shadeM { h with g := swG h.g a b } (2 * a)) (2 * b) else { h with g := swG h.g a b })
  else (false, h)
def holdM (h : HM) (l : List Int) : HM := l.foldl shadeM h
def greyM (h : HM) : Option Nat := (List.range 5).find? fun s => !(h.M s 2).isEmpty
def scan1 (h : HM) (s : Nat) : HM := (h.X (s, (scM (h.M s)).1)).2.foldl shadeM { h with M := upd h.M s (scM (h.M s)).2 }
def scanN : Nat → Int → Int → HM → Int × HM
  | 0, _, d, h => (d, h)
  | k + 1, lim, d, h => match greyM h with
    | none => (d, h)
    | some s => if d < lim then scanN k lim (d + wds s) (scan1 h s) else (d, h)
def scanM (h : HM) (w : Int) : Int × HM := scanN 262145 (min w 1048576) 0 h
def flipK (h : HM) (k : Nat) : HM := ⟨fun i => match h.g i with
    | none => none
    | some p => if p.1 < k ∧ p.2 ∈ h.M p.1.toNat 3 then none else some p, fun s => if s < k then flM (h.M s) else h.M s, h.X⟩
def cntK (h : HM) : Nat → Nat
  | 0 => 0
  | k + 1 => cntK h k + (h.M k 3).length
def flipM (h : HM) : Int × HM := match greyM h with
  | some _ => (-1, h)
  | none => (cntK h 5, flipK h 5)
structure HOk (n : Nat → Nat) (h : HM) : Prop where
  mill : ∀ s, s < 5 → MlOk (n s) (h.M s)
  inj : Inj h.g
  dom : ∀ i p, h.g i = some p → 4 ≤ i ∧ i < 1024
  at_ : ∀ i p, h.g i = some p → 0 ≤ p.1 ∧ p.1 < 5 ∧ ∃ k, 1 ≤ k ∧ k < 4 ∧ p.2 ∈ h.M p.1.toNat k
  of : ∀ s k c, s < 5 → 1 ≤ k → k < 4 → c ∈ h.M s k → ∃ i, h.g i = some ((s : Int), c)
  x : ∀ i p, h.g i = some p → (0 ≤ (h.X p).1 ∧ (h.X p).1 ≤ 4095) ∧ szP (h.X p).2.length = p.1 ∧ ∀ w, w ∈ (h.X p).2 → 0 < w ∧ w < 4294967296
  sum : n 0 + n 1 + n 2 + n 3 + n 4 ≤ 1020
  max : ∀ s, s < 5 → n s ≤ 512
def cellsN (n : Nat → Nat) (s : Nat) : List Pl := (List.range (n s)).map fun c : Nat => (((s : Int), (c : Int)) : Pl)
theorem mem_cellsN {n : Nat → Nat} {s : Nat} {p : Pl} : p ∈ cellsN n s ↔ p.1 = s ∧ 0 ≤ p.2 ∧ p.2 < n s := by
  unfold cellsN
  rw [List.mem_map]
  constructor
  · rintro ⟨c, hc, rfl⟩
    rw [List.mem_range] at hc
    exact ⟨rfl, by simp, by simpa using hc⟩
  · rintro ⟨h1, h2, h3⟩
    refine ⟨p.2.toNat, by rw [List.mem_range]; omega, ?_⟩
    obtain ⟨a, b⟩ := p
    simp only at h1 h2 ⊢
    rw [h1, Int.toNat_of_nonneg h2]
theorem HOk.room {n : Nat → Nat} {h : HM} (ok : HOk n h) {s : Nat} (hs : s < 5) {c : Int} (hc : c ∈ h.M s 0) : ∃ i, Lst h.g i := by
  have hfree : ∃ i : Nat, i < 1024 ∧ 4 ≤ i ∧ h.g i = none := by
    apply Classical.byContradiction
    intro hno
    have hall : ∀ i : Nat, 4 ≤ i → i < 1024 → ∃ p, h.g i = some p := fun i h4 hi => by
      cases hg : h.g i with
      | none => exact absurd ⟨i, hi, h4, hg⟩ hno
      | some p => exact ⟨p, rfl⟩
    let f : Nat → Pl := fun k => (h.g ((k + 4 : Nat) : Int)).getD (0, 0)
    have hf : ∀ k, k < 1020 → h.g ((k + 4 : Nat) : Int) = some (f k) := fun k hk => by
      obtain ⟨p, hp⟩ := hall (k + 4) (by omega) (by omega)
      show _ = some ((h.g ((k + 4 : Nat) : Int)).getD (0, 0))
      rw [hp]; rfl
    have nd : ((List.range 1020).map f).Nodup := by
      rw [List.nodup_iff_pairwise_ne, List.pairwise_map]
      refine (List.nodup_range (n := 1020)).imp_of_mem ?_
      intro a b ha hb hab e
      rw [List.mem_range] at ha hb
      have := ok.inj _ _ _ (hf a ha) (by rw [hf b hb, e])
      omega
    let P : List Pl := cellsN n 0 ++ (cellsN n 1 ++ (cellsN n 2 ++ (cellsN n 3 ++ cellsN n 4)))
    have hP : ∀ p : Pl, p ∈ P ↔ ∃ s, s < 5 ∧ p ∈ cellsN n s := fun p => by
      simp only [P, List.mem_append]
      constructor
      · rintro (h | h | h | h | h)
        · exact ⟨0, by omega, h⟩
        · exact ⟨1, by omega, h⟩
        · exact ⟨2, by omega, h⟩
        · exact ⟨3, by omega, h⟩
        · exact ⟨4, by omega, h⟩
      · rintro ⟨s, hs, h⟩
        match s, hs with
        | 0, _ => exact .inl h
        | 1, _ => exact .inr (.inl h)
        | 2, _ => exact .inr (.inr (.inl h))
        | 3, _ => exact .inr (.inr (.inr (.inl h)))
        | 4, _ => exact .inr (.inr (.inr (.inr h)))
    have lenP : P.length = n 0 + n 1 + n 2 + n 3 + n 4 := by simp [P, cellsN]; omega
    have hmem : ((s : Int), c) ∈ P := (hP _).2 ⟨s, hs, mem_cellsN.2 ⟨rfl, (ok.mill s hs).inn 0 c (by omega) hc⟩⟩
    have nd2 : (((s : Int), c) :: (List.range 1020).map f).Nodup := by
      rw [List.nodup_cons]
      refine ⟨?_, nd⟩
      intro hm
      obtain ⟨k, hk, e⟩ := List.mem_map.1 hm
      rw [List.mem_range] at hk
      have hg := hf k hk
      rw [e] at hg
      obtain ⟨-, -, j, h1, h2, h3⟩ := ok.at_ _ _ hg
      have := (ok.mill s hs).dis j 0 c h2 (by omega) (by simpa using h3) hc
      omega
    have := nodup_len nd2 (m := P) fun p hp => by
      rcases List.mem_cons.1 hp with rfl | hp
      · exact hmem
      · obtain ⟨k, hk, rfl⟩ := List.mem_map.1 hp
        rw [List.mem_range] at hk
        obtain ⟨h1, h2, j, -, h4, h5⟩ := ok.at_ _ _ (hf k hk)
        exact (hP _).2 ⟨(f k).1.toNat, by omega, mem_cellsN.2 ⟨by omega, (ok.mill _ (by omega)).inn j _ h4 h5⟩⟩
    rw [lenP] at this
    simp at this
    have := ok.sum
    omega
  have least : ∀ k : Nat, (∃ i : Nat, i < 4 + k ∧ 4 ≤ i ∧ i < 1024 ∧ h.g i = none) → ∃ i, Lst h.g i := by
    intro k
    induction k with
    | zero => rintro ⟨i, h1, h2, -⟩; omega
    | succ k ih =>
      rintro ⟨i, h1, h2, h3, h4⟩
      by_cases hex : ∃ i : Nat, i < 4 + k ∧ 4 ≤ i ∧ i < 1024 ∧ h.g i = none
      · exact ih hex
      · refine ⟨(i : Int), by omega, by omega, h4, fun j hj1 hj2 hn => ?_⟩
        have hi : i = 4 + k := by
          apply Classical.byContradiction
          intro hne
          exact hex ⟨i, by omega, h2, h3, h4⟩
        refine hex ⟨j.toNat, by omega, by omega, by omega, ?_⟩
        rw [Int.toNat_of_nonneg (by omega)]; exact hn
  obtain ⟨i, h1, h2, h3⟩ := hfree
  exact least 1020 ⟨i, by omega, h2, h1, h3⟩
section
variable {n : Nat → Nat} {h : HM}
theorem HOk.move (ok : HOk n h) {s : Nat} (hs : s < 5) {j : Nat} (hj : 1 ≤ j) (hj4 : j < 4) {c : Int} (hc : c ∈ h.M s j) {k : Nat} (hk : 1 ≤ k) (hk4 : k < 4) : HOk n { h with M := upd h.M s (mv (h.M s) c k) } := by
  have mo := ok.mill s hs
  refine ⟨fun t ht => ?_, ok.inj, ok.dom, fun i p hp => ?_, fun t l x ht hl hl4 hx => ?_, ok.x, ok.sum, ok.max⟩
  · show MlOk (n t) (upd h.M s _ t)
    by_cases e : t = s
    · subst e; rw [upd_same]; exact mo.mv (mo.inn j c hj4 hc) hk4
    · rw [upd_ne e]; exact ok.mill t ht
  · obtain ⟨h1, h2, l, h3, h4, h5⟩ := ok.at_ i p hp
    refine ⟨h1, h2, ?_⟩
    show ∃ k', 1 ≤ k' ∧ k' < 4 ∧ p.2 ∈ upd h.M s _ p.1.toNat k'
    by_cases e : p.1.toNat = s
    · rw [e, upd_same]
      rw [e] at h5
      by_cases e2 : p.2 = c
      · exact ⟨k, hk, hk4, (mem_mv mo hk4).2 (.inr ⟨rfl, e2⟩)⟩
      · exact ⟨l, h3, h4, (mem_mv mo h4).2 (.inl ⟨e2, h5⟩)⟩
    · rw [upd_ne e]; exact ⟨l, h3, h4, h5⟩
  · have hx' : x ∈ upd h.M s (mv (h.M s) c k) t l := hx
    show ∃ i, h.g i = some ((t : Int), x)
    by_cases e : t = s
    · subst e
      rw [upd_same] at hx'
      rcases (mem_mv mo hl4).1 hx' with ⟨-, hx⟩ | ⟨-, rfl⟩
      · exact ok.of t l x ht hl hl4 hx
      · exact ok.of t j x ht hj hj4 hc
    · rw [upd_ne e] at hx'; exact ok.of t l x ht hl hl4 hx'
theorem upd_self {α : Type} {f : Nat → α} {i : Nat} : upd f i (f i) = f := by
  funext j
  by_cases e : j = i
  · subst e; rw [upd_same]
  · rw [upd_ne e]
theorem HOk.shM (ok : HOk n h) {s : Nat} (hs : s < 5) (c : Int) : HOk n { h with M := upd h.M s (shM (h.M s) c) } := by
  unfold Go.Proofs.YtaihjlemofgokaaGreat.AA.shM
  split
  · rename_i hc
    exact ok.move hs (j := 3) (by omega) (by omega) hc (by omega) (by omega)
  · rw [upd_self]; exact ok
theorem HOk.shade (ok : HOk n h) (w : Int) : HOk n (shadeM h w) := by
  unfold shadeM
  split
  · exact ok
  · split
    · exact ok
    · rename_i i _ p hp
      obtain ⟨h1, h2, -⟩ := ok.at_ _ _ hp
      exact ok.shM (by omega) _
theorem HOk.hold : ∀ (l : List Int) {h : HM}, HOk n h → HOk n (l.foldl shadeM h)
  | [], _, ok => ok
  | w :: l, _, ok => HOk.hold l (ok.shade w)
theorem HOk.scan1 (ok : HOk n h) {s : Nat} (hs : s < 5) (hg : h.M s 2 ≠ []) : HOk n (scan1 h s) := by
  unfold Go.Proofs.YtaihjlemofgokaaGreat.AA.scan1
  refine HOk.hold _ ?_
  unfold scM
  cases hm : h.M s 2 with
  | nil => exact absurd hm hg
  | cons c l => exact ok.move hs (j := 2) (by omega) (by omega) (by rw [hm]; simp) (by omega) (by omega)
theorem greyM_some {s : Nat} (hg : greyM h = some s) : s < 5 ∧ h.M s 2 ≠ [] ∧ ∀ t, t < s → h.M t 2 = [] := by
  unfold greyM at hg
  rw [List.find?_eq_some_iff_getElem] at hg
  obtain ⟨h1, i, hi, h2, h3⟩ := hg
  simp only [List.getElem_range] at h2
  subst h2
  simp only [List.length_range] at hi
  refine ⟨hi, by simpa using h1, fun t ht => ?_⟩
  have := h3 t ht
  simpa using this
theorem greyM_none (hg : greyM h = none) : ∀ t, t < 5 → h.M t 2 = [] := fun t ht => by
  unfold greyM at hg
  rw [List.find?_eq_none] at hg
  simpa using hg t (by rw [List.mem_range]; exact ht)
theorem greyM_of_none (hg : ∀ t, t < 5 → h.M t 2 = []) : greyM h = none := by
  unfold greyM
  rw [List.find?_eq_none]
  intro t ht
  rw [List.mem_range] at ht
  simp [hg t ht]
theorem greyM_of_some {s : Nat} (hs : s < 5) (h1 : h.M s 2 ≠ []) (h2 : ∀ t, t < s → h.M t 2 = []) : greyM h = some s := by
  cases hg : greyM h with
  | none => exact absurd (greyM_none hg s hs) h1
  | some t =>
    obtain ⟨a, b, c⟩ := greyM_some hg
    by_cases e : t = s
    · rw [e]
    · by_cases hl : t < s
      · exact absurd (h2 t hl) b
      · exact absurd (c s (by omega)) h1
theorem HOk.scanN : ∀ (k : Nat) {h : HM}, HOk n h → ∀ (lim d : Int), HOk n (Go.Proofs.YtaihjlemofgokaaGreat.AA.scanN k lim d h).2
  | 0, _, ok, _, _ => ok
  | k + 1, h, ok, lim, d => by
    unfold Go.Proofs.YtaihjlemofgokaaGreat.AA.scanN
    split
    · exact ok
    · rename_i s hg
      obtain ⟨h1, h2, -⟩ := greyM_some hg
      split
      · exact HOk.scanN k (ok.scan1 h1 h2) _ _
      · exact ok
theorem HOk.scan (ok : HOk n h) (w : Int) : HOk n (scanM h w).2 := HOk.scanN _ ok _ _
theorem szP_nn {f : Int} (h : 0 ≤ szP f) : 0 ≤ f ∧ f ≤ 62 ∧ szP f < 5 ∧ f + 2 ≤ wds (szP f).toNat := by
  unfold szP at h ⊢
  by_cases h0 : f < 0
  · rw [if_pos h0] at h; omega
  rw [if_neg h0] at h ⊢
  by_cases h1 : f ≤ 2
  · rw [if_pos h1]; simp [wds]; omega
  rw [if_neg h1] at h ⊢
  by_cases h2 : f ≤ 6
  · rw [if_pos h2]; simp [wds]; omega
  rw [if_neg h2] at h ⊢
  by_cases h3 : f ≤ 14
  · rw [if_pos h3]; simp [wds]; omega
  rw [if_neg h3] at h ⊢
  by_cases h4 : f ≤ 30
  · rw [if_pos h4]; simp [wds]; omega
  rw [if_neg h4] at h ⊢
  by_cases h5 : f ≤ 62
  · rw [if_pos h5]; simp [wds]; omega
  · rw [if_neg h5] at h; omega
theorem HOk.alloc (ok : HOk n h) (c f : Int) : HOk n (allocM h c f).2 := by
  unfold allocM
  split
  · exact ok
  · rename_i hc
    have hs0 : 0 ≤ szP f := by omega
    obtain ⟨f0, f1, hs5, -⟩ := szP_nn hs0
    have hs : (szP f).toNat < 5 := by omega
    have es : ((szP f).toNat : Int) = szP f := by omega
    generalize hS : (szP f).toNat = s at hs es
    split
    · exact ok
    · rename_i i l hm
      have him : i ∈ h.M s 0 := by rw [hm]; simp
      have mo := ok.mill s hs
      obtain ⟨id, hid⟩ := ok.room hs him
      have hno : ∀ j, h.g j ≠ some (szP f, i) := fun j hj => by
        obtain ⟨-, -, k, h1, h2, h3⟩ := ok.at_ _ _ hj
        simp only [hS] at h3
        have := mo.dis k 0 i h2 (by omega) h3 him
        omega
      rw [tk_at hno hid]
      have gne : ∀ j p, fset h.g id (some (szP f, i)) j = some p → (j = id ∧ p = (szP f, i)) ∨ (j ≠ id ∧ h.g j = some p) := fun j p hp => by
        by_cases e : j = id
        · subst e; rw [fset_same] at hp; exact .inl ⟨rfl, (Option.some.inj hp).symm⟩
        · rw [fset_ne e] at hp; exact .inr ⟨e, hp⟩
      refine ⟨fun t ht => ?_, inj_some ok.inj id hno, fun j p hp => ?_, fun j p hp => ?_, fun t k x ht hk hk4 hx => ?_, fun j p hp => ?_, ok.sum, ok.max⟩
      · show MlOk (n t) (upd h.M s _ t)
        by_cases e : t = s
        · subst e; rw [upd_same]; exact mo.mv (mo.inn 0 i (by omega) him) (by omega)
        · rw [upd_ne e]; exact ok.mill t ht
      · rcases gne j p hp with ⟨rfl, -⟩ | ⟨-, hp⟩
        · exact ⟨hid.1, hid.2.1⟩
        · exact ok.dom j p hp
      · show 0 ≤ p.1 ∧ p.1 < 5 ∧ ∃ k', 1 ≤ k' ∧ k' < 4 ∧ p.2 ∈ upd h.M s _ p.1.toNat k'
        rcases gne j p hp with ⟨rfl, rfl⟩ | ⟨-, hp⟩
        · refine ⟨hs0, hs5, 1, by omega, by omega, ?_⟩
          rw [hS, upd_same]
          exact (mem_mv mo (by omega)).2 (.inr ⟨rfl, rfl⟩)
        · obtain ⟨h1, h2, k, h3, h4, h5⟩ := ok.at_ _ _ hp
          refine ⟨h1, h2, k, h3, h4, ?_⟩
          by_cases e : p.1.toNat = s
          · rw [e, upd_same]
            rw [e] at h5
            refine (mem_mv mo h4).2 (.inl ⟨fun e2 => ?_, h5⟩)
            rw [e2] at h5
            have := mo.dis k 0 i h4 (by omega) h5 him
            omega
          · rw [upd_ne e]; exact h5
      · have hx' : x ∈ upd h.M s (mv (h.M s) i 1) t k := hx
        show ∃ j, fset h.g id _ j = some ((t : Int), x)
        have old : ∀ k, 1 ≤ k → k < 4 → x ∈ h.M t k → ∃ j, fset h.g id (some (szP f, i)) j = some ((t : Int), x) := fun k hk hk4 hx => by
          obtain ⟨j, hj⟩ := ok.of t k x ht hk hk4 hx
          refine ⟨j, ?_⟩
          rw [fset_ne (fun e => by rw [e, hid.2.2.1] at hj; cases hj)]
          exact hj
        by_cases e : t = s
        · subst e
          rw [upd_same] at hx'
          rcases (mem_mv mo hk4).1 hx' with ⟨-, hx⟩ | ⟨-, rfl⟩
          · exact old k hk hk4 hx
          · exact ⟨id, by rw [fset_same, es]⟩
        · rw [upd_ne e] at hx'; exact old k hk hk4 hx'
      · show (0 ≤ (fset h.X _ _ p).1 ∧ (fset h.X _ _ p).1 ≤ 4095) ∧ szP (fset h.X _ _ p).2.length = p.1 ∧ ∀ w, w ∈ (fset h.X _ _ p).2 → 0 < w ∧ w < 4294967296
        rcases gne j p hp with ⟨rfl, rfl⟩ | ⟨-, hp⟩
        · rw [fset_same]
          refine ⟨by dsimp only; omega, ?_, fun w hw => ?_⟩
          · simp only [List.length_replicate]
            rw [Int.toNat_of_nonneg f0]
          · have := List.eq_of_mem_replicate hw; omega
        · have hpn : p ≠ (szP f, i) := fun e => hno j (e ▸ hp)
          rw [fset_ne hpn]; exact ok.x j p hp
theorem HOk.putX (ok : HOk n h) {i : Int} {p : Pl} (_ : h.g i = some p) {l : List Int} (hl : l.length = (h.X p).2.length) (hw : ∀ w, w ∈ l → 0 < w ∧ w < 4294967296) : HOk n { h with X := fset h.X p ((h.X p).1, l) } := by
  refine ⟨ok.mill, ok.inj, ok.dom, ok.at_, ok.of, fun j q hq => ?_, ok.sum, ok.max⟩
  show (0 ≤ (fset h.X _ _ q).1 ∧ (fset h.X _ _ q).1 ≤ 4095) ∧ szP (fset h.X _ _ q).2.length = q.1 ∧ ∀ w, w ∈ (fset h.X _ _ q).2 → 0 < w ∧ w < 4294967296
  by_cases e : q = p
  · subst e
    rw [fset_same]
    refine ⟨(ok.x j q hq).1, ?_, hw⟩
    dsimp only
    rw [hl]; exact (ok.x j q hq).2.1
  · rw [fset_ne e]; exact ok.x j q hq
theorem HOk.put (ok : HOk n h) (i k : Int) {w : Int} (hw : 0 ≤ w ∧ w < 4294967296) : HOk n (putM h i k w).2 := by
  unfold putM
  split
  · exact ok
  · rename_i p hp
    split
    · rename_i hc
      have := ok.putX hp (l := (h.X p).2.set k.toNat w) (by simp) fun x hx => by
        rcases List.mem_or_eq_of_mem_set hx with hx | rfl
        · exact (ok.x _ _ hp).2.2 x hx
        · omega
      dsimp only
      split
      · exact this.shade w
      · exact this
    · exact ok
theorem swG_some {g : TG} {a b : Int} {p q : Pl} (hp : g a = some p) (hq : g b = some q) : swG g a b = fset (fset g a (some q)) b (some p) := by unfold swG; rw [hp, hq]
theorem swG_no {g : TG} {a b : Int} (h : g a = none ∨ g b = none) : swG g a b = g := by
  unfold swG
  rcases h with h | h
  · rw [h]
  · rw [h]; cases g a <;> rfl
theorem swG_cases (g : TG) (a b : Int) : (∃ p q, g a = some p ∧ g b = some q) ∨ (g a = none ∨ g b = none) := by
  cases ha : g a with
  | none => exact .inr (.inl rfl)
  | some p => cases hb : g b with
    | none => exact .inr (.inr rfl)
    | some q => exact .inl ⟨p, q, rfl, rfl⟩
theorem swG_of {g : TG} {a b i : Int} {r : Pl} (hr : swG g a b i = some r) : ∃ j, g j = some r := by
  rcases swG_cases g a b with ⟨p, q, hp, hq⟩ | hn
  · rw [swG_some hp hq] at hr
    by_cases e : i = b
    · subst e; rw [fset_same] at hr; exact ⟨a, by rw [hp, hr]⟩
    · rw [fset_ne e] at hr
      by_cases e : i = a
      · subst e; rw [fset_same] at hr; exact ⟨b, by rw [hq, hr]⟩
      · rw [fset_ne e] at hr; exact ⟨i, hr⟩
  · rw [swG_no hn] at hr; exact ⟨i, hr⟩
theorem swG_to {g : TG} {a b i : Int} {r : Pl} (hr : g i = some r) : ∃ j, swG g a b j = some r := by
  rcases swG_cases g a b with ⟨p, q, hp, hq⟩ | hn
  · rw [swG_some hp hq]
    by_cases e : i = a
    · subst e; rw [hp] at hr; exact ⟨b, by rw [fset_same, hr]⟩
    · by_cases e2 : i = b
      · subst e2
        refine ⟨a, ?_⟩
        rw [fset_ne (Ne.symm e), fset_same, ← hq, hr]
      · exact ⟨i, by rw [fset_ne e2, fset_ne e, hr]⟩
  · rw [swG_no hn]; exact ⟨i, hr⟩
theorem swG_dom {g : TG} (hd : ∀ i p, g i = some p → 4 ≤ i ∧ i < 1024) {a b i : Int} {r : Pl} (hr : swG g a b i = some r) : 4 ≤ i ∧ i < 1024 := by
  rcases swG_cases g a b with ⟨p, q, hp, hq⟩ | hn
  · rw [swG_some hp hq] at hr
    by_cases e : i = b
    · subst e; exact hd _ _ hq
    · rw [fset_ne e] at hr
      by_cases e : i = a
      · subst e; exact hd _ _ hp
      · rw [fset_ne e] at hr; exact hd _ _ hr
  · rw [swG_no hn] at hr; exact hd _ _ hr
theorem HOk.sw (ok : HOk n h) (a b : Int) : HOk n { h with g := swG h.g a b } :=
  ⟨ok.mill, inj_swap ok.inj a b, fun i p hp => swG_dom ok.dom hp, fun i p hp => by
    obtain ⟨j, hj⟩ := swG_of hp
    exact ok.at_ j p hj, fun s k c hs hk hk4 hc => by
    obtain ⟨j, hj⟩ := ok.of s k c hs hk hk4 hc
    exact swG_to hj, fun i p hp => by
    obtain ⟨j, hj⟩ := swG_of hp
    exact ok.x j p hj, ok.sum, ok.max⟩
theorem HOk.swap (ok : HOk n h) (a b : Int) : HOk n (swapM h a b).2 := by
  unfold swapM
  split
  · dsimp only
    split
    · exact ((ok.sw a b).shade _).shade _
    · exact ok.sw a b
  · exact ok
theorem flM_ok {N : Nat} {m : Ml} (h : MlOk N m) : MlOk N (flM m) := by
  have mm : ∀ k i, k < 4 → (i ∈ flM m k ↔ (k = 0 ∧ (i ∈ m 0 ∨ i ∈ m 3)) ∨ (k = 2 ∧ i ∈ m 2) ∨ (k = 3 ∧ i ∈ m 1)) := by
    intro k i hk
    unfold flM
    match k, hk with
    | 0, _ => simp
    | 1, _ => simp
    | 2, _ => simp
    | 3, _ => simp
  refine ⟨fun k hk => ?_, fun j k i hj hk h1 h2 => ?_, fun k i hk hi => ?_, fun i h0 h1 => ?_⟩
  · unfold flM
    match k, hk with
    | 0, _ =>
      simp only [if_true]
      rw [List.nodup_append]
      exact ⟨h.nd 0 (by omega), h.nd 3 (by omega), fun a ha b hb e => by
        have := h.dis 0 3 a (by omega) (by omega) ha (e ▸ hb); omega⟩
    | 1, _ => simp
    | 2, _ => simpa using h.nd 2 (by omega)
    | 3, _ => simpa using h.nd 1 (by omega)
  · rw [mm j i hj] at h1
    rw [mm k i hk] at h2
    have ne : ∀ a b, a < 4 → b < 4 → i ∈ m a → i ∈ m b → a = b := fun a b ha hb h1 h2 => h.dis a b i ha hb h1 h2
    rcases h1 with ⟨rfl, h1 | h1⟩ | ⟨rfl, h1⟩ | ⟨rfl, h1⟩ <;> rcases h2 with ⟨rfl, h2 | h2⟩ | ⟨rfl, h2⟩ | ⟨rfl, h2⟩ <;> first
      | rfl
      | (have := ne _ _ (by omega) (by omega) h1 h2; omega)
  · rw [mm k i hk] at hi
    rcases hi with ⟨-, hi | hi⟩ | ⟨-, hi⟩ | ⟨-, hi⟩
    · exact h.inn 0 i (by omega) hi
    · exact h.inn 3 i (by omega) hi
    · exact h.inn 2 i (by omega) hi
    · exact h.inn 1 i (by omega) hi
  · obtain ⟨k, hk, hi⟩ := h.all i h0 h1
    match k, hk, hi with
    | 0, _, hi => exact ⟨0, by omega, (mm 0 i (by omega)).2 (.inl ⟨rfl, .inl hi⟩)⟩
    | 1, _, hi => exact ⟨3, by omega, (mm 3 i (by omega)).2 (.inr (.inr ⟨rfl, hi⟩))⟩
    | 2, _, hi => exact ⟨2, by omega, (mm 2 i (by omega)).2 (.inr (.inl ⟨rfl, hi⟩))⟩
    | 3, _, hi => exact ⟨0, by omega, (mm 0 i (by omega)).2 (.inl ⟨rfl, .inr hi⟩)⟩
theorem flipK_g {k : Nat} {i : Int} {p : Pl} : (flipK h k).g i = some p ↔ h.g i = some p ∧ ¬ (p.1 < k ∧ p.2 ∈ h.M p.1.toNat 3) := by
  unfold flipK
  dsimp only
  cases hg : h.g i with
  | none => simp
  | some q =>
    dsimp only
    split
    · rename_i hq
      constructor
      · intro e; cases e
      · rintro ⟨e, hn⟩
        cases e
        exact absurd hq hn
    · rename_i hq
      constructor
      · intro e; cases e; exact ⟨rfl, hq⟩
      · rintro ⟨e, -⟩; exact e
theorem HOk.flipK (ok : HOk n h) (k : Nat) : HOk n (flipK h k) := by
  have hM : ∀ s, (Go.Proofs.YtaihjlemofgokaaGreat.AA.flipK h k).M s = if s < k then flM (h.M s) else h.M s := fun _ => rfl
  refine ⟨fun s hs => ?_, fun i j p h1 h2 => ok.inj i j p (flipK_g.1 h1).1 (flipK_g.1 h2).1, fun i p hp => ok.dom i p (flipK_g.1 hp).1, fun i p hp => ?_, fun s l c hs hl hl4 hc => ?_, fun i p hp => ok.x i p (flipK_g.1 hp).1, ok.sum, ok.max⟩
  · rw [hM]
    split
    · exact flM_ok (ok.mill s hs)
    · exact ok.mill s hs
  · obtain ⟨hp, hn⟩ := flipK_g.1 hp
    obtain ⟨h1, h2, l, h3, h4, h5⟩ := ok.at_ i p hp
    refine ⟨h1, h2, ?_⟩
    rw [hM]
    split
    · rename_i hs
      have h3' : p.2 ∉ h.M p.1.toNat 3 := fun hm => hn ⟨by omega, hm⟩
      match l, h3, h4, h5 with
      | 1, _, _, h5 => exact ⟨3, by omega, by omega, by simpa [flM] using h5⟩
      | 2, _, _, h5 => exact ⟨2, by omega, by omega, by simpa [flM] using h5⟩
      | 3, _, _, h5 => exact absurd h5 h3'
    · exact ⟨l, h3, h4, h5⟩
  · rw [hM] at hc
    have mo := ok.mill s hs
    split at hc
    · rename_i hsk
      match l, hl, hl4, hc with
      | 1, _, _, hc => simp [flM] at hc
      | 2, _, _, hc =>
        have hc' : c ∈ h.M s 2 := by simpa [flM] using hc
        obtain ⟨i, hi⟩ := ok.of s 2 c hs (by omega) (by omega) hc'
        refine ⟨i, flipK_g.2 ⟨hi, fun hh => ?_⟩⟩
        have := mo.dis 2 3 c (by omega) (by omega) hc' (by simpa using hh.2)
        omega
      | 3, _, _, hc =>
        have hc' : c ∈ h.M s 1 := by simpa [flM] using hc
        obtain ⟨i, hi⟩ := ok.of s 1 c hs (by omega) (by omega) hc'
        refine ⟨i, flipK_g.2 ⟨hi, fun hh => ?_⟩⟩
        have := mo.dis 1 3 c (by omega) (by omega) hc' (by simpa using hh.2)
        omega
    · rename_i hsk
      obtain ⟨i, hi⟩ := ok.of s l c hs hl hl4 hc
      exact ⟨i, flipK_g.2 ⟨hi, fun hh => hsk (by have := hh.1; simpa using this)⟩⟩
theorem HOk.flip (ok : HOk n h) : HOk n (flipM h).2 := by
  unfold flipM
  split
  · exact ok
  · exact ok.flipK 5
end
theorem mv_head {N : Nat} {m : Ml} (ok : MlOk N m) {a b : Nat} (ha : a < 4) (hb : b < 4) (hab : a ≠ b) {i : Int} {l : List Int} (hm : m a = i :: l) : mv m i b a = l ∧ mv m i b b = m b ++ [i] ∧ ∀ k, k < 4 → k ≠ a → k ≠ b → mv m i b k = m k := by
  have hi : i ∈ m a := by rw [hm]; simp
  have hno : ∀ k, k < 4 → k ≠ a → i ∉ m k := fun k hk hka hmk => hka (ok.dis k a i hk ha hmk hi)
  refine ⟨?_, ?_, fun k hk h1 h2 => ?_⟩
  · unfold mv; rw [if_neg hab, hm, List.erase_cons_head]
  · unfold mv; rw [if_pos rfl, erase_not (hno b hb (Ne.symm hab))]
  · unfold mv; rw [if_neg h2, erase_not (hno k hk h1)]
theorem HOk.alloc_at {n : Nat → Nat} {h : HM} (ok : HOk n h) {c f : Int} (hs : 0 ≤ szP f) (h0 : 0 ≤ c) (h1 : c ≤ 4095) {i : Int} {l : List Int} (hm : h.M (szP f).toNat 0 = i :: l) :
    ∃ id, Lst h.g id ∧ allocM h c f = (id, ⟨fset h.g id (some (szP f, i)), upd h.M (szP f).toNat (mv (h.M (szP f).toNat) i 1), fset h.X (szP f, i) (c, List.replicate f.toNat 2)⟩) := by
  obtain ⟨-, -, hs5, -⟩ := szP_nn hs
  have him : i ∈ h.M (szP f).toNat 0 := by rw [hm]; simp
  obtain ⟨id, hid⟩ := ok.room (by omega) him
  refine ⟨id, hid, ?_⟩
  have hno : ∀ j, h.g j ≠ some (szP f, i) := fun j hj => by
    obtain ⟨-, -, k, h1, h2, h3⟩ := ok.at_ _ _ hj
    have := (ok.mill (szP f).toNat (by omega)).dis k 0 i h2 (by omega) h3 him
    omega
  unfold allocM
  rw [if_neg (by omega), hm]
  dsimp only
  rw [tk_at hno hid]
theorem MlOk.full {N : Nat} {m : Ml} (ok : MlOk N m) (h : ∀ k, 1 ≤ k → k < 4 → m k = []) : (m 0).length = N := by
  have h1 : (m 0).length ≤ N := by
    have := nodup_len (ok.nd 0 (by omega)) (m := (List.range N).map fun i : Nat => (i : Int)) fun x hx => by
      obtain ⟨a, b⟩ := ok.inn 0 x (by omega) hx
      exact List.mem_map.2 ⟨x.toNat, by rw [List.mem_range]; omega, by omega⟩
    simpa using this
  have h2 : N ≤ (m 0).length := by
    have nd : ((List.range N).map fun i : Nat => (i : Int)).Nodup := by
      rw [List.nodup_iff_pairwise_ne, List.pairwise_map]
      exact (List.nodup_range (n := N)).imp fun h e => h (by omega)
    have := nodup_len nd (m := m 0) fun x hx => by
      obtain ⟨i, hi, rfl⟩ := List.mem_map.1 hx
      rw [List.mem_range] at hi
      obtain ⟨k, hk, hm⟩ := ok.all i (by omega) (by omega)
      by_cases e : k = 0
      · rw [e] at hm; exact hm
      · rw [h k (by omega) hk] at hm; cases hm
    simpa using this
  omega
structure OneRow (n : Nat → Nat) (h : HM) (s q j : Nat) : Prop where
  ok : HOk n h
  len : (h.M s q).length = j
  no : ∀ t k, t < 5 → 1 ≤ k → k < 4 → (t ≠ s ∨ k ≠ q) → h.M t k = []
theorem OneRow.free {n : Nat → Nat} {h : HM} {s j : Nat} (o : OneRow n h s 1 j) (hs : s < 5) : (h.M s 0).length + j = n s := by
  have mo := o.ok.mill s hs
  have : MlOk (n s) (fun k => if k = 0 then h.M s 0 ++ h.M s 1 else if k = 1 then [] else h.M s k) := by
    refine ⟨fun k hk => ?_, fun a b i ha hb h1 h2 => ?_, fun k i hk hi => ?_, fun i h0 h1 => ?_⟩
    · by_cases e : k = 0
      · simp only [if_pos e]
        rw [List.nodup_append]
        exact ⟨mo.nd 0 (by omega), mo.nd 1 (by omega), fun x hx y hy e => by
          have := mo.dis 0 1 x (by omega) (by omega) hx (e ▸ hy); omega⟩
      · simp only [if_neg e]
        split
        · simp
        · exact mo.nd k hk
    · have key : ∀ a, a < 4 → (i ∈ (fun k => if k = 0 then h.M s 0 ++ h.M s 1 else if k = 1 then [] else h.M s k) a) → a = 0 := by
        intro a ha hi
        dsimp only at hi
        by_cases e : a = 0
        · exact e
        · rw [if_neg e] at hi
          by_cases e1 : a = 1
          · rw [if_pos e1] at hi; cases hi
          · rw [if_neg e1, o.no s a hs (by omega) ha (.inr e1)] at hi; cases hi
      rw [key a ha h1, key b hb h2]
    · split at hi
      · rcases List.mem_append.1 hi with hi | hi
        · exact mo.inn 0 i (by omega) hi
        · exact mo.inn 1 i (by omega) hi
      · split at hi
        · cases hi
        · exact mo.inn k i hk hi
    · obtain ⟨k, hk, hm⟩ := mo.all i h0 h1
      by_cases e : k = 0
      · subst e; exact ⟨0, by omega, by simp [hm]⟩
      · by_cases e1 : k = 1
        · subst e1; exact ⟨0, by omega, by simp [hm]⟩
        · rw [o.no s k hs (by omega) hk (.inr e1)] at hm; cases hm
  have := this.full fun k h1 h2 => by
    rw [if_neg (by omega)]
    split
    · rfl
    · rename_i e; exact o.no s k hs h1 h2 (.inr e)
  simp only [if_true, List.length_append, o.len] at this
  exact this
theorem OneRow.alloc {n : Nat → Nat} {h : HM} {c f : Int} {j : Nat} (hs : 0 ≤ szP f) (h0 : 0 ≤ c) (h1 : c ≤ 4095) (o : OneRow n h (szP f).toNat 1 j) (hj : j < n (szP f).toNat) : 4 ≤ (allocM h c f).1 ∧ OneRow n (allocM h c f).2 (szP f).toNat 1 (j + 1) := by
  obtain ⟨-, -, hs5, -⟩ := szP_nn hs
  have hs' : (szP f).toNat < 5 := by omega
  have hfree := o.free hs'
  cases hm : h.M (szP f).toNat 0 with
  | nil => rw [hm] at hfree; simp at hfree; omega
  | cons i l =>
    obtain ⟨id, hid, e⟩ := o.ok.alloc_at hs h0 h1 hm
    have ok' := o.ok.alloc c f
    rw [e] at ok' ⊢
    obtain ⟨q1, q2, q3⟩ := mv_head (o.ok.mill _ hs') (by omega) (by omega) (by omega : (0 : Nat) ≠ 1) hm
    refine ⟨hid.1, ok', ?_, fun t k ht hk hk4 hne => ?_⟩
    · show (upd h.M _ _ _ 1).length = j + 1
      rw [upd_same, q2, List.length_append, o.len]; rfl
    · show upd h.M _ _ t k = []
      by_cases et : t = (szP f).toNat
      · subst et
        rw [upd_same, q3 k hk4 (by omega) (by rcases hne with h | h; exact absurd rfl h; exact h)]
        exact o.no _ _ ht hk hk4 hne
      · rw [upd_ne et]; exact o.no _ _ ht hk hk4 (.inl et)
set_option maxHeartbeats 4000000
attribute [local irreducible] Tr.set
theorem ofP_szP (f : Int) : ofP f = szP f := by
  unfold ofP szP
  repeat' split
  all_goals omega
theorem fitP_wds {s : Nat} (hs : s < 5) : fitP (s : Int) = (wds s : Nat) := by
  match s, hs with
  | 0, _ => rfl
  | 1, _ => rfl
  | 2, _ => rfl
  | 3, _ => rfl
  | 4, _ => rfl
theorem wds_bd {s : Nat} (hs : s < 5) : 4 ≤ wds s ∧ wds s ≤ 64 := by
  match s, hs with
  | 0, _ => decide
  | 1, _ => decide
  | 2, _ => decide
  | 3, _ => decide
  | 4, _ => decide
structure PA where
  b : Nat
  tb : Nat
  r1 : Nat
  r2 : Nat
  me : Nat
  w : Nat → Nat
  ml : Nat → MA
  T : Nat → Nat
def hb (A : PA) (n : Nat → Nat) (i : Nat) : AV := if i < 5 then .slice (some (A.w i, 0)) 1 (n i * wds i) true else if i < 10 then (if n (i - 5) = 0 then .ptr none else .ptr (some ((A.ml (i - 5)).mb, 0))) else if i = 10 then .ptr (some (A.tb, 0)) else .ptr (some (A.me, 0))
structure HB (A : PA) (n : Nat → Nat) (H : AHeap) (g : TG) (M : Nat → Ml) (F : Nat → Nat → AV) : Prop where
  blk : Blk H A.b 12 (hb A n)
  wrd : ∀ s, s < 5 → Blk H (A.w s) (n s * wds s) (F s)
  mil : ∀ s, s < 5 → n s ≠ 0 → MillR H (A.ml s) (n s) (M s)
  tab : TabR H A.tb A.r1 A.r2 g
  met : ∃ f t, Blk H A.me 3 f ∧ f 0 = .int .i64 t ∧ 0 ≤ t ∧ t ≤ 1152921504606846976
  tb_ : A.T A.b = 1
  tt : A.T A.tb = 2 ∧ A.T A.r1 = 2 ∧ A.T A.r2 = 2
  tm : A.T A.me = 3
  tw : ∀ s, s < 5 → A.T (A.w s) = 10 + s
  tl : ∀ s, s < 5 → n s ≠ 0 → ∀ x, (A.ml s).d x → A.T x = 20 + s
  new : ∀ x, H.next ≤ x → A.T x = 0
abbrev PA.d (A : PA) (x : Nat) : Prop := A.T x ≠ 0
section
variable {A : PA} {n : Nat → Nat} {H H' : AHeap} {g : TG} {M : Nat → Ml} {F : Nat → Nat → AV}
theorem TabR.d3 {b r1 r2 : Nat} (h : TabR H b r1 r2 g) {T : Nat → Nat} {k : Nat} (t : T b = k ∧ T r1 = k ∧ T r2 = k) (hl : H.next ≤ H'.next) (hg : ∀ x, x < H.next → T x = k → H'.get x = H.get x) : TabR H' b r1 r2 g :=
  h.keep hl (hg _ h.lts.1 t.1) (hg _ h.lts.2.1 t.2.1) (hg _ h.lts.2.2 t.2.2)
theorem HB.gen (h : HB A n H g M F) (hl : H.next ≤ H'.next) {k : Nat} (hg : ∀ x, x < H.next → A.T x ≠ 0 → A.T x ≠ k → H'.get x = H.get x) {g' : TG} {M' : Nat → Ml} {F' : Nat → Nat → AV}
    (hb1 : k ≠ 1) (hw : ∀ s, s < 5 → (k ≠ 10 + s ∧ F' s = F s) ∨ Blk H' (A.w s) (n s * wds s) (F' s)) (hm : ∀ s, s < 5 → n s ≠ 0 → (k ≠ 20 + s ∧ M' s = M s) ∨ MillR H' (A.ml s) (n s) (M' s)) (ht : (k ≠ 2 ∧ g' = g) ∨ TabR H' A.tb A.r1 A.r2 g') (hme : k ≠ 3 ∨ ∃ f t, Blk H' A.me 3 f ∧ f 0 = .int .i64 t ∧ 0 ≤ t ∧ t ≤ 1152921504606846976) : HB A n H' g' M' F' := by
  refine ⟨h.blk.keep' hl (hg _ h.blk.1 (by rw [h.tb_]; omega) (by rw [h.tb_]; omega)), fun s hs => ?_, fun s hs hn => ?_, ?_, ?_, h.tb_, h.tt, h.tm, h.tw, h.tl, fun x hx => h.new x (by omega)⟩
  · rcases hw s hs with ⟨e, e2⟩ | e
    · rw [e2]
      exact (h.wrd s hs).keep' hl (hg _ (h.wrd s hs).1 (by rw [h.tw s hs]; omega) (by rw [h.tw s hs]; omega))
    · exact e
  · rcases hm s hs hn with ⟨e, e2⟩ | e
    · rw [e2]
      exact (h.mil s hs hn).keep hl fun x hx => hg x ((h.mil s hs hn).lt hx) (by rw [h.tl s hs hn x hx]; omega) (by rw [h.tl s hs hn x hx]; omega)
    · exact e
  · rcases ht with ⟨e, e2⟩ | e
    · rw [e2]
      exact h.tab.d3 h.tt hl fun x hx hT => hg x hx (by omega) (by omega)
    · exact e
  · rcases hme with e | e
    · obtain ⟨f, t, hf, hr⟩ := h.met
      exact ⟨f, t, hf.keep' hl (hg _ hf.1 (by rw [h.tm]; omega) (by rw [h.tm]; omega)), hr⟩
    · exact e
theorem HB.sm (h : HB A n H g M F) (s : Sm H H') : HB A n H' g M F :=
  h.gen (k := 99) s.1 (fun x hx _ _ => s.gt hx) (by omega) (fun s _ => .inl ⟨by omega, rfl⟩) (fun s _ _ => .inl ⟨by omega, rfl⟩) (.inl ⟨by omega, rfl⟩) (.inl (by omega))
theorem HB.mill (h : HB A n H g M F) {s : Nat} (hs : s < 5) (hn : n s ≠ 0) {m : Ml} (hm : MillR H' (A.ml s) (n s) m) (ev : Evo (A.ml s).d H H') : HB A n H' g (upd M s m) F :=
  h.gen (k := 20 + s) ev.1 (fun x hx _ hk => ev.2 x hx fun hd => hk (h.tl s hs hn x hd)) (by omega) (fun t _ => .inl ⟨by omega, rfl⟩) (fun t _ _ => by
    by_cases e : t = s
    · subst e; right; rw [upd_same]; exact hm
    · left; exact ⟨by omega, upd_ne e⟩) (.inl ⟨by omega, rfl⟩) (.inl (by omega))
theorem HB.table (h : HB A n H g M F) {g' : TG} (ht : TabR H' A.tb A.r1 A.r2 g') (ev : Evo (D2 A.r1 A.r2) H H') : HB A n H' g' M F :=
  h.gen (k := 2) ev.1 (fun x hx _ hk => ev.2 x hx fun hd => hk (by rcases hd with rfl | rfl; exact h.tt.2.1; exact h.tt.2.2)) (by omega) (fun t _ => .inl ⟨by omega, rfl⟩) (fun t _ _ => .inl ⟨by omega, rfl⟩) (.inr ht) (.inl (by omega))
theorem HB.words (h : HB A n H g M F) {s : Nat} (hs : s < 5) {f : Nat → AV} (hf : Blk H' (A.w s) (n s * wds s) f) (ch : Ch (A.w s) H H') : HB A n H' g M (upd F s f) :=
  h.gen (k := 10 + s) (by rw [ch.1]; exact Nat.le_refl _) (fun x hx _ hk => ch.2 x fun e => hk (by rw [e, h.tw s hs])) (by omega) (fun t _ => by
    by_cases e : t = s
    · subst e; right; rw [upd_same]; exact hf
    · left; exact ⟨by omega, upd_ne e⟩) (fun t _ _ => .inl ⟨by omega, rfl⟩) (.inl ⟨by omega, rfl⟩) (.inl (by omega))
theorem HB.lds (h : HB A n H g M F) : loadA H A.b 10 1 = some [.ptr (some (A.tb, 0))] ∧ loadA H A.b 11 1 = some [.ptr (some (A.me, 0))] := ⟨h.blk.load (i := 10) (by omega), h.blk.load (i := 11) (by omega)⟩
theorem HB.ldW (h : HB A n H g M F) {s : Nat} (hs : s < 5) : loadA H A.b s 1 = some [.slice (some (A.w s, 0)) 1 (n s * wds s) true] := by
  rw [h.blk.load (i := s) (by omega)]
  unfold hb; rw [if_pos hs]
theorem HB.ldM (h : HB A n H g M F) {s : Nat} (hs : s < 5) (hn : n s ≠ 0) : loadA H A.b (5 + s) 1 = some [.ptr (some ((A.ml s).mb, 0))] := by
  rw [h.blk.load (i := 5 + s) (by omega)]
  unfold hb; rw [if_neg (by omega), if_pos (by omega), show 5 + s - 5 = s by omega, if_neg hn]
theorem HB.ldM0 (h : HB A n H g M F) {s : Nat} (hs : s < 5) (hn : n s = 0) : loadA H A.b (5 + s) 1 = some [.ptr none] := by
  rw [h.blk.load (i := 5 + s) (by omega)]
  unfold hb; rw [if_neg (by omega), if_pos (by omega), show 5 + s - 5 = s by omega, if_pos hn]
end
theorem wrap32 {x : Int} (h0 : 0 ≤ x) (h1 : x < 4294967296) : IntKind.u32.wrap x = x := by
  unfold IntKind.wrap
  simp [IntKind.signed, IntKind.bits, BitVec.toNat_ofInt]
  omega
attribute [local go_sem ↓] WP_seq WP_skip WP_region WP_dregion WP_cond WP_block WP_exit WP_ret OW_nil OW_cons DW_nil DW_cons XW_call reduceIte OW_guard DW_guard
attribute [local go_sem] XW exA KO_eq OptK_some EvK_some GW2_true GW2_false KS_normal KS_ret KS_exit KB_normal KB_ret KB_exit CP2_bool RP_ret RP_normal putA_some putA_none ev_t ev_c evs evo wantA initA resA Tr.get_set vl chkOk cond_true cond_false Nat.add_zero Nat.mul_one Nat.one_mul Nat.zero_add Nat.zero_mul aggOf pInt binA unA intA beq_true beq_false Bool.not_true Bool.not_false Bool.not_eq_true and_self and_true true_and reduceIte Nat.reduceEqDiff Nat.succ_ne_self Nat.reduceAdd Nat.reduceMul Nat.reduceSub Nat.reduceBEq Nat.reduceLT Nat.reduceLeDiff Int.cast_ofNat_Int Int.reduceToNat Int.reduceLT Int.reduceLE Int.reduceGE Int.reduceGT Int.reduceEq Int.reduceNe Int.reduceAdd Int.reduceSub Int.reduceNeg decide_true decide_false Int.toNat_natCast reduceCtorEq List.nil_append List.cons_append AV.boxy AV.cells List.length_cons List.length_nil Nat.beq_refl AOp.cl KDW_0 KDW_1 KDW_2 OWskip_eq DWskip_eq fillA setAt DChk DAt stepA ble_dec beq_dec Bool.and_self Bool.and_true Bool.true_and Bool.and_false Bool.false_and List.take_succ_cons List.take_zero List.drop_succ_cons List.drop_zero List.take_nil List.drop_nil List.append_nil eqAV eqAVL BEq.rfl sameS Option.map Option.isNone wrap64 gt_iff_lt ge_iff_le Int.lt_irrefl Int.le_refl
set_option maxHeartbeats 4000000
theorem ofInt32 {a : Nat} (h : a < 4294967296) : (BitVec.ofInt 32 (a : Int)).toNat = a := by
  rw [BitVec.toNat_ofInt]; omega
theorem orA {a b k : Nat} (hb : b < 2 ^ k) (h : 2 ^ k * a + b < 4294967296) : binA .or (.sc .int) (.int .u32 ((2 ^ k * a : Nat) : Int)) (.int .u32 (b : Int)) = some (.int .u32 ((2 ^ k * a + b : Nat) : Int)) := by
  have h1 := ofInt32 (a := 2 ^ k * a) (by omega)
  have h2 := ofInt32 (a := b) (by omega)
  have h3 := Nat.two_pow_add_eq_or_of_lt hb a
  show some (AV.int .u32 (IntKind.u32.wrap (((BitVec.ofInt 32 ((2 ^ k * a : Nat) : Int) ||| BitVec.ofInt 32 (b : Int)).toNat : Nat) : Int))) = _
  rw [BitVec.toNat_or, h1, h2, ← h3, wrap32 (by omega) (by omega)]
theorem andA {a k : Nat} (hk : k ≤ 31) (h : a < 4294967296) : binA .and (.sc .int) (.int .u32 (a : Int)) (.int .u32 ((2 ^ k - 1 : Nat) : Int)) = some (.int .u32 ((a % 2 ^ k : Nat) : Int)) := by
  have hp : 2 ^ k ≤ 2 ^ 31 := Nat.pow_le_pow_right (by omega) hk
  have h1 := ofInt32 (a := a) h
  have h2 := ofInt32 (a := 2 ^ k - 1) (by omega)
  have h3 := Nat.and_two_pow_sub_one_eq_mod a k
  have h4 := Nat.mod_le a (2 ^ k)
  show some (AV.int .u32 (IntKind.u32.wrap (((BitVec.ofInt 32 (a : Int) &&& BitVec.ofInt 32 ((2 ^ k - 1 : Nat) : Int)).toNat : Nat) : Int))) = _
  rw [BitVec.toNat_and, h1, h2, h3, wrap32 (by omega) (by omega)]
theorem shrA {a k : Nat} {j : IntKind} (hk : k ≤ 32) : binA .shr (.sc .int) (.int .u32 (a : Int)) (.int j (k : Int)) = some (.int .u32 ((a / 2 ^ k : Nat) : Int)) := by
  have : min ((k : Int).toNat) (IntKind.u32.bits) = k := by simp [IntKind.bits]; omega
  show (if (k : Int) < 0 then none else some (AV.int .u32 ((a : Int).fdiv (2 ^ (min ((k : Int).toNat) IntKind.u32.bits))))) = _
  rw [if_neg (by omega), this]
  congr 2
  rw [Int.fdiv_eq_ediv_of_nonneg _ (by exact Int.le_of_lt (Int.pow_pos (by omega)))]
  norm_cast
theorem shlA {a k : Nat} {j : IntKind} (hk : k ≤ 32) (h : 2 ^ k * a < 4294967296) : binA .shl (.sc .int) (.int .u32 (a : Int)) (.int j (k : Int)) = some (.int .u32 ((2 ^ k * a : Nat) : Int)) := by
  have : min ((k : Int).toNat) (IntKind.u32.bits) = k := by simp [IntKind.bits]; omega
  show (if (k : Int) < 0 then none else some (AV.int .u32 (IntKind.u32.wrap ((a : Int) * 2 ^ (min ((k : Int).toNat) IntKind.u32.bits))))) = _
  have e : (a : Int) * 2 ^ k = ((2 ^ k * a : Nat) : Int) := by rw [Nat.mul_comm]; norm_cast
  rw [if_neg (by omega), this, e, wrap32 (by omega) (by omega)]
theorem conv32 {n : Nat} (h : n < 4294967296) {H : AHeap} : convA (.int .u32) (.int .i64 (n : Int)) H = some (.int .u32 (n : Int), H) := by
  show some (AV.int .u32 (IntKind.u32.wrap (n : Int)), H) = _
  rw [wrap32 (by omega) (by omega)]
theorem conv64 {n : Nat} (h : n < 4294967296) {H : AHeap} : convA (.int .i64) (.int .u32 (n : Int)) H = some (.int .i64 (n : Int), H) := by
  show some (AV.int .i64 (IntKind.i64.wrap (n : Int)), H) = _
  rw [wrap64 (by omega) (by omega)]
def hwN (c l s : Nat) : Nat := c * 1048576 + l * 4096 + s * 256 + 1
section
variable {H : AHeap}
theorem c_hwithin (n m : Int) : CW MN 82 [.int .i64 n, .int .i64 m] H fun v H' => v = .bool (decide (0 ≤ n ∧ n ≤ m)) ∧ H' = H := by
  refine CW_of (fn := af82) rfl ?_
  dsimp only [af82, qm, q, qG, qn, qi, qb, qB, qk, qc, qo, qg, qv, qr]
  by_cases h0 : 0 ≤ n
  · by_cases h1 : n ≤ m
    · simp -implicitDefEqProofs only [h0, h1, eqA, eqD, go_sem]
    · simp -implicitDefEqProofs only [h0, h1, and_false, eqA, eqD, go_sem]
  · simp -implicitDefEqProofs only [h0, false_and, Bool.false_eq_true, eqA, eqD, go_sem]
theorem c_Pack {c l s : Nat} (hc : c ≤ 4095) (hl : l ≤ 255) (hs : s ≤ 15) : CW MN 44 [.agg [.int .i64 c, .int .i64 l, .int .i64 s]] H fun v H' => v = .tuple [.int .u32 (hwN c l s), .bool true] ∧ Sm H H' := by
  refine CW_of (fn := af44) rfl ?_
  dsimp only [af44, qm, q, qG, qn, qi, qb, qB, qk, qc, qo, qg, qv, qr]
  have r1 := Rd.newRow H [.int .i64 c, .int .i64 l, .int .i64 s]
  have s1 := Chg.newRow H [.int .i64 c, .int .i64 l, .int .i64 s]
  generalize eH1 : H.newRow [.int .i64 c, .int .i64 l, .int .i64 s] = H1 at *
  have m0 := r1.one (j := 0) (v := .int .i64 c) rfl
  have m1 := r1.one (j := 1) (v := .int .i64 l) rfl
  have m2 := r1.one (j := 2) (v := .int .i64 s) rfl
  have d1 : decide ((0 : Int) ≤ c ∧ (c : Int) ≤ 4095) = true := decide_eq_true (by omega)
  have d2 : decide ((0 : Int) ≤ l ∧ (l : Int) ≤ 255) = true := decide_eq_true (by omega)
  have d3 : decide ((0 : Int) ≤ s ∧ (s : Int) ≤ 15) = true := decide_eq_true (by omega)
  have e1 : ∀ G, convA (.int .u32) (.int .i64 (c : Int)) G = some (.int .u32 (c : Int), G) := fun G => conv32 (by omega)
  have e2 : ∀ G, convA (.int .u32) (.int .i64 (l : Int)) G = some (.int .u32 (l : Int), G) := fun G => conv32 (by omega)
  have e3 : ∀ G, convA (.int .u32) (.int .i64 (s : Int)) G = some (.int .u32 (s : Int), G) := fun G => conv32 (by omega)
  have f1 : binA .shl (.sc .int) (.int .u32 (c : Int)) (.int .u64 20) = _ := shlA (k := 20) (by omega) (by omega)
  have f2 : binA .shl (.sc .int) (.int .u32 (l : Int)) (.int .u64 12) = _ := shlA (k := 12) (by omega) (by omega)
  have f3 : binA .shl (.sc .int) (.int .u32 (s : Int)) (.int .u64 8) = _ := shlA (k := 8) (by omega) (by omega)
  have o1 : binA .or (.sc .int) (.int .u32 ((2 ^ 20 * c : Nat) : Int)) (.int .u32 ((2 ^ 12 * l : Nat) : Int)) = some (.int .u32 ((2 ^ 12 * (2 ^ 8 * c + l) : Nat) : Int)) := by
    rw [orA (k := 20) (by omega) (by omega)]; congr 3; omega
  have o2 : binA .or (.sc .int) (.int .u32 ((2 ^ 12 * (2 ^ 8 * c + l) : Nat) : Int)) (.int .u32 ((2 ^ 8 * s : Nat) : Int)) = some (.int .u32 ((2 ^ 1 * (2 ^ 7 * (2 ^ 4 * (2 ^ 8 * c + l) + s)) : Nat) : Int)) := by
    rw [orA (k := 12) (by omega) (by omega)]; congr 3; omega
  have o3 : binA .or (.sc .int) (.int .u32 ((2 ^ 1 * (2 ^ 7 * (2 ^ 4 * (2 ^ 8 * c + l) + s)) : Nat) : Int)) (.int .u32 1) = some (.int .u32 (hwN c l s : Nat)) := by
    have := orA (k := 1) (a := 2 ^ 7 * (2 ^ 4 * (2 ^ 8 * c + l) + s)) (b := 1) (by omega) (by omega)
    rw [show (((1 : Nat) : Int)) = 1 from rfl] at this
    rw [this]; congr 3; unfold hwN; omega
  generalize ((2 ^ 20 * c : Nat) : Int) = x1 at *
  generalize ((2 ^ 12 * l : Nat) : Int) = x2 at *
  generalize ((2 ^ 8 * s : Nat) : Int) = x3 at *
  generalize ((2 ^ 12 * (2 ^ 8 * c + l) : Nat) : Int) = x4 at *
  generalize ((2 ^ 1 * (2 ^ 7 * (2 ^ 4 * (2 ^ 8 * c + l) + s)) : Nat) : Int) = x5 at *
  simp -implicitDefEqProofs only [eH1, m0, eqA, eqD, go_sem]
  refine CW.mono (c_hwithin _ _) ?_
  rintro v H' ⟨rfl, rfl⟩
  rw [d1]
  simp -implicitDefEqProofs only [eH1, m1, eqA, eqD, go_sem]
  refine CW.mono (c_hwithin _ _) ?_
  rintro v H' ⟨rfl, rfl⟩
  rw [d2]
  simp -implicitDefEqProofs only [eH1, m2, eqA, eqD, go_sem]
  refine CW.mono (c_hwithin _ _) ?_
  rintro v H' ⟨rfl, rfl⟩
  rw [d3]
  simp -implicitDefEqProofs only [eH1, m0, m1, m2, e1, e2, e3, ↓f1, ↓f2, ↓f3, ↓o1, ↓o2, ↓o3, Bool.false_eq_true, eqA, eqD, go_sem]
  exact s1
theorem c_Oop {i : Nat} (h1 : 1 ≤ i) (h2 : i ≤ 2147483647) : CW MN 48 [.int .i64 i] H fun v H' => v = .int .u32 ((2 * i : Nat) : Int) ∧ H' = H := by
  refine CW_of (fn := af48) rfl ?_
  dsimp only [af48, qm, q, qG, qn, qi, qb, qB, qk, qc, qo, qg, qv, qr]
  have i1 : ¬ (i : Int) < 1 := by omega
  have i2 : ¬ (2147483647 : Int) < i := by omega
  have e1 : ∀ G, convA (.int .u32) (.int .i64 (i : Int)) G = some (.int .u32 (i : Int), G) := fun G => conv32 (by omega)
  have f1 : binA .shl (.sc .int) (.int .u32 (i : Int)) (.int .u64 1) = some (.int .u32 ((2 * i : Nat) : Int)) := shlA (k := 1) (by omega) (by omega)
  simp -implicitDefEqProofs only [i1, i2, e1, ↓f1, Bool.false_eq_true, eqA, eqD, go_sem]
theorem c_ID {w : Nat} (hw : w < 4294967296) : CW MN 86 [.int .u32 w] H fun v H' => v = .tuple [.int .i64 ((idP (w : Int)).getD 0), .bool (idP (w : Int)).isSome] ∧ H' = H := by
  refine CW_of (fn := af86) rfl ?_
  dsimp only [af86, qm, q, qG, qn, qi, qb, qB, qk, qc, qo, qg, qv, qr]
  have a1 : binA .and (.sc .int) (.int .u32 (w : Int)) (.int .u32 1) = some (.int .u32 ((w % 2 : Nat) : Int)) := andA (k := 1) (by omega) hw
  have a2 : binA .shr (.sc .int) (.int .u32 (w : Int)) (.int .u64 1) = some (.int .u32 ((w / 2 : Nat) : Int)) := shrA (k := 1) (by omega)
  have e1 : ∀ G, convA (.int .i64) (.int .u32 ((w / 2 : Nat) : Int)) G = some (.int .i64 ((w / 2 : Nat) : Int), G) := fun G => conv64 (by omega)
  have z01 : ((0 : Int) == 1) = false := rfl
  unfold idP
  by_cases h1 : w % 2 = 1
  · have h1' : (w : Int) % 2 = 1 := by omega
    rw [if_pos (.inl h1')]
    have a1' := a1
    rw [h1] at a1'
    have c1 : ((1 : Nat) : Int) = 1 := rfl
    rw [c1] at a1'
    simp -implicitDefEqProofs only [↓a1', Option.getD_none, Option.isSome_none, eqA, eqD, go_sem]
  · have h0 : w % 2 = 0 := by omega
    have a1' := a1
    rw [h0] at a1'
    have c1 : ((0 : Nat) : Int) = 0 := rfl
    rw [c1] at a1'
    by_cases hz : w = 0
    · have hz' : ((w : Int) == 0) = true := by simp [hz]
      rw [if_pos (.inr (by omega))]
      simp -implicitDefEqProofs only [↓a1', z01, hz', Option.getD_none, Option.isSome_none, Bool.false_eq_true, eqA, eqD, go_sem]
    · have hz' : ((w : Int) == 0) = false := by simp; omega
      rw [if_neg (by omega)]
      have ed : ((w : Int) / 2) = ((w / 2 : Nat) : Int) := by omega
      rw [ed]
      simp -implicitDefEqProofs only [↓a1', z01, ↓a2, e1, hz', Option.getD_some, Option.isSome_some, Bool.false_eq_true, eqA, eqD, go_sem]
theorem c_hClass {w : Nat} (hw : w < 4294967296) : CW MN 98 [.int .u32 w] H fun v H' => v = .int .i64 ((w / 1048576 : Nat) : Int) ∧ H' = H := by
  refine CW_of (fn := af98) rfl ?_
  dsimp only [af98, qm, q, qG, qn, qi, qb, qB, qk, qc, qo, qg, qv, qr]
  have a2 : binA .shr (.sc .int) (.int .u32 (w : Int)) (.int .u64 20) = some (.int .u32 ((w / 1048576 : Nat) : Int)) := shrA (k := 20) (by omega)
  have e1 : ∀ G, convA (.int .i64) (.int .u32 ((w / 1048576 : Nat) : Int)) G = some (.int .i64 ((w / 1048576 : Nat) : Int), G) := fun G => conv64 (by omega)
  simp -implicitDefEqProofs only [↓a2, e1, eqA, eqD, go_sem]
theorem c_hSize {w : Nat} (hw : w < 4294967296) : CW MN 99 [.int .u32 w] H fun v H' => v = .int .i64 ((w / 4096 % 256 : Nat) : Int) ∧ H' = H := by
  refine CW_of (fn := af99) rfl ?_
  dsimp only [af99, qm, q, qG, qn, qi, qb, qB, qk, qc, qo, qg, qv, qr]
  have a2 : binA .shr (.sc .int) (.int .u32 (w : Int)) (.int .u64 12) = some (.int .u32 ((w / 4096 : Nat) : Int)) := shrA (k := 12) (by omega)
  have a3 : binA .and (.sc .int) (.int .u32 ((w / 4096 : Nat) : Int)) (.int .u32 255) = some (.int .u32 ((w / 4096 % 256 : Nat) : Int)) := andA (k := 8) (by omega) (by omega)
  have e1 : ∀ G, convA (.int .i64) (.int .u32 ((w / 4096 % 256 : Nat) : Int)) G = some (.int .i64 ((w / 4096 % 256 : Nat) : Int), G) := fun G => conv64 (by omega)
  simp -implicitDefEqProofs only [↓a2, ↓a3, e1, eqA, eqD, go_sem]
theorem c_hOpen {c l s : Nat} (hc : c ≤ 4095) (hl : l ≤ 255) (hs : s ≤ 15) : CW MN 85 [.int .u32 (hwN c l s)] H fun v H' => v = .tuple [.agg [.int .i64 c, .int .i64 l, .int .i64 s], .bool true] ∧ Sm H H' := by
  refine CW_of (fn := af85) rfl ?_
  dsimp only [af85, qm, q, qG, qn, qi, qb, qB, qk, qc, qo, qg, qv, qr]
  have hw : hwN c l s < 4294967296 := by unfold hwN; omega
  have q1 : hwN c l s / 1048576 = c := by unfold hwN; omega
  have q2 : hwN c l s / 4096 % 256 = l := by unfold hwN; omega
  have q3 : hwN c l s / 256 % 16 = s := by unfold hwN; omega
  have q4 : hwN c l s % 256 = 1 := by unfold hwN; omega
  generalize hwN c l s = w at *
  have a1 : binA .and (.sc .int) (.int .u32 (w : Int)) (.int .u32 255) = some (.int .u32 1) := by
    have := andA (a := w) (k := 8) (by omega) hw
    rw [q4] at this; exact this
  have a2 : binA .shr (.sc .int) (.int .u32 (w : Int)) (.int .u64 8) = some (.int .u32 ((w / 256 : Nat) : Int)) := shrA (k := 8) (by omega)
  have a3 : binA .and (.sc .int) (.int .u32 ((w / 256 : Nat) : Int)) (.int .u32 15) = some (.int .u32 (s : Int)) := by
    have := andA (a := w / 256) (k := 4) (by omega) (by omega)
    rw [q3] at this; exact this
  have e1 : ∀ G, convA (.int .i64) (.int .u32 (s : Int)) G = some (.int .i64 (s : Int), G) := fun G => conv64 (by omega)
  have b1 := Blk.new H [.int .i64 0, .int .i64 0, .int .i64 0] (n := 3) rfl
  have s1 := Chg.newRow H [.int .i64 0, .int .i64 0, .int .i64 0]
  generalize eH1 : H.newRow [.int .i64 0, .int .i64 0, .int .i64 0] = H1 at *
  obtain ⟨H2, p1, p2, p3⟩ := b1.stores (i := 0) (vs := [.int .i64 c, .int .i64 l, .int .i64 s]) (by simp)
  have l3 := (p2.rd (i := 0) (vs := [.int .i64 c, .int .i64 l, .int .i64 s]) (by simp) fun j v hj => by
    match j, hj with
    | 0, hj => simpa [updL] using hj
    | 1, hj => simpa [updL] using hj
    | 2, hj => simpa [updL] using hj).load (n := 3) rfl
  simp -implicitDefEqProofs only [eH1, ↓a1, eqA, eqD, go_sem]
  refine CW.mono (c_hClass hw) ?_
  rintro v H' ⟨rfl, rfl⟩
  rw [q1]
  simp -implicitDefEqProofs only [eH1, eqA, eqD, go_sem]
  refine CW.mono (c_hSize hw) ?_
  rintro v H' ⟨rfl, rfl⟩
  rw [q2]
  simp -implicitDefEqProofs only [eH1, ↓a2, ↓a3, e1, p1, l3, bne_self_eq_false, Bool.false_eq_true, eqA, eqD, go_sem]
  exact s1.ch (Nat.le_refl _) p3
end
attribute [local go_sem ↓] exA_lookup stepA_lookup exA_mapEnt exA_entSt exA_delete exA_mapUpd WP_seq WP_skip WP_region WP_dregion WP_cond WP_block WP_exit WP_ret OW_nil OW_cons DW_nil DW_cons XW_call reduceIte OW_guard DW_guard
attribute [local go_sem] LkA_some EvA_some entL_some updM_some at0 at1 at2 XW exA KO_eq OptK_some EvK_some GW2_true GW2_false KS_normal KS_ret KS_exit KB_normal KB_ret KB_exit CP2_bool RP_ret RP_normal putA_some putA_none ev_t ev_c evs evo wantA initA resA Tr.get_set vl chkOk cond_true cond_false Nat.add_zero Nat.mul_one Nat.one_mul Nat.zero_add Nat.zero_mul aggOf pInt binA unA intA beq_true beq_false Bool.not_true Bool.not_false Bool.not_eq_true and_self and_true true_and reduceIte Nat.reduceEqDiff Nat.succ_ne_self Nat.reduceAdd Nat.reduceMul Nat.reduceSub Nat.reduceBEq Nat.reduceLT Nat.reduceLeDiff Int.cast_ofNat_Int Int.reduceToNat Int.reduceLT Int.reduceLE Int.reduceGE Int.reduceGT Int.reduceEq Int.reduceNe Int.reduceAdd Int.reduceSub Int.reduceNeg decide_true decide_false Int.toNat_natCast reduceCtorEq List.nil_append List.cons_append AV.boxy AV.cells List.length_cons List.length_nil Nat.beq_refl AOp.cl KDW_0 KDW_1 KDW_2 OWskip_eq DWskip_eq fillA setAt DChk DAt stepA ble_dec beq_dec Bool.and_self Bool.and_true Bool.true_and Bool.and_false Bool.false_and List.take_succ_cons List.take_zero List.drop_succ_cons List.drop_zero List.take_nil List.drop_nil List.append_nil eqAV eqAVL BEq.rfl sameS Option.map Option.isNone wrap64 gt_iff_lt ge_iff_le Int.lt_irrefl Int.le_refl
set_option maxHeartbeats 4000000
theorem slA_midN {x o s n a b : Nat} {cl : Bool} (h : a ≤ b) (h1 : b ≤ n) : slA x o s n cl (some (.int .i64 (a : Int))) (some (.int .i64 (b : Int))) none = some (.slice (some (x, o + a * s)) s (b - a) (cl && b.beq n)) := by
  have := slA_mid (x := x) (o := o) (s := s) (n := n) (cl := cl) (a := (a : Int)) (b := (b : Int)) (by omega) (by omega) (by omega)
  rwa [Int.toNat_natCast, Int.toNat_natCast] at this
section
variable {A : PA} {n : Nat → Nat} {H : AHeap} {g : TG} {M : Nat → Ml} {F : Nat → Nat → AV}
theorem c_Add (h : HB A n H g M F) (k : Int) : CW MN 49 [.ptr (some (A.me, 0)), .int .i64 k] H fun _ H' => HB A n H' g M F ∧ Ch A.me H H' := by
  refine CW_of (fn := af49) rfl ?_
  dsimp only [af49, qm, q, qG, qn, qi, qb, qB, qk, qc, qo, qg, qv, qr]
  obtain ⟨f, t, hf, hf0, t0, t1⟩ := h.met
  have l0 := hf.load (i := 0) (by omega)
  rw [hf0] at l0
  obtain ⟨m, hm⟩ : ∃ m : Int, mnL false (.int .i64 k) [.int .i64 1048576] = some (.int .i64 m) ∧ m ≤ 1048576 := by
    simp only [mnL, mnA, cond_false]
    by_cases c : (1048576 : Int) < k
    · exact ⟨1048576, by rw [if_pos c], by omega⟩
    · exact ⟨k, by rw [if_neg c], by omega⟩
  obtain ⟨m2, hm2⟩ : ∃ m2 : Int, mnL true (.int .i64 0) [.int .i64 m] = some (.int .i64 m2) ∧ 0 ≤ m2 ∧ m2 ≤ 1048576 := by
    simp only [mnL, mnA, cond_true]
    by_cases c : m > (0 : Int)
    · exact ⟨m, by rw [if_pos c], by omega, hm.2⟩
    · exact ⟨0, by rw [if_neg c], by omega, by omega⟩
  have hw : IntKind.i64.wrap (t + m2) = t + m2 := wrap64 (by omega) (by omega)
  obtain ⟨m3, hm3⟩ : ∃ m3 : Int, mnL false (.int .i64 (t + m2)) [.int .i64 1152921504606846976] = some (.int .i64 m3) ∧ 0 ≤ m3 ∧ m3 ≤ 1152921504606846976 := by
    simp only [mnL, mnA, cond_false]
    by_cases c : (1152921504606846976 : Int) < t + m2
    · exact ⟨1152921504606846976, by rw [if_pos c], by omega, by omega⟩
    · exact ⟨t + m2, by rw [if_neg c], by omega, by omega⟩
  obtain ⟨H', e1, e2, e3, e4⟩ := hf.store (i := 0) (by omega) (.int .i64 m3)
  simp -implicitDefEqProofs only [l0, hm.1, hm2.1, hw, hm3.1, e1, eqA, eqD, go_sem]
  exact ⟨h.gen (k := 3) (by rw [e3]; exact Nat.le_refl _) (fun x hx _ hk => e4 x fun e => hk (by rw [e, h.tm])) (by omega) (fun s _ => .inl ⟨by omega, rfl⟩) (fun s _ _ => .inl ⟨by omega, rfl⟩) (.inl ⟨by omega, rfl⟩) (.inr ⟨_, m3, e2, upd_same, hm3.2.1, hm3.2.2⟩), e3, e4⟩
theorem c_cell (h : HB A n H g M F) {s c : Nat} (hs : s < 5) (hc : c < n s) (hn : n s ≤ 512) : CW MN 47 [.ptr (some (A.b, 0)), .agg [.int .i64 s, .int .i64 c]] H fun v H' => (∃ cl, v = .slice (some (A.w s, c * wds s)) 1 (wds s) cl) ∧ Sm H H' := by
  refine CW_of (fn := af47) rfl ?_
  dsimp only [af47, qm, q, qG, qn, qi, qb, qB, qk, qc, qo, qg, qv, qr]
  obtain ⟨w0, w1⟩ := wds_bd hs
  have r1 := Rd.newRow H [.int .i64 s, .int .i64 c]
  have s1 := Chg.newRow H [.int .i64 s, .int .i64 c]
  generalize eH1 : H.newRow [.int .i64 s, .int .i64 c] = H1 at *
  have m0 := r1.one (j := 0) (v := .int .i64 s) rfl
  have m1 := r1.one (j := 1) (v := .int .i64 c) rfl
  have h1 := h.sm s1
  have lw := h1.ldW hs
  have s0 : (0 : Int) ≤ s := by omega
  have s5 : (s : Int) < 5 := by omega
  have hs' : (s : Int) = -1 ∨ (s : Int) = 0 ∨ (s : Int) = 1 ∨ (s : Int) = 2 ∨ (s : Int) = 3 ∨ (s : Int) = 4 := by omega
  have b1 : c * wds s ≤ 512 * 64 := Nat.mul_le_mul (by omega) w1
  have b2 : (c + 1) * wds s ≤ n s * wds s := Nat.mul_le_mul_right _ hc
  have b3 : (c + 1) * wds s ≤ 513 * 64 := Nat.mul_le_mul (by omega) w1
  have b4 : c * wds s ≤ (c + 1) * wds s := Nat.mul_le_mul_right _ (by omega)
  have b5 : (c + 1) * wds s - c * wds s = wds s := by rw [Nat.add_mul, Nat.one_mul]; omega
  have w2 : IntKind.i64.wrap ((c : Int) * ((wds s : Nat) : Int)) = ((c * wds s : Nat) : Int) := by rw [← Int.natCast_mul]; exact wrap64 (by omega) (by omega)
  have w3 : IntKind.i64.wrap ((c : Int) + 1) = ((c + 1 : Nat) : Int) := by rw [wrap64 (by omega) (by omega)]; omega
  have w4 : IntKind.i64.wrap (((c + 1 : Nat) : Int) * ((wds s : Nat) : Int)) = (((c + 1) * wds s : Nat) : Int) := by rw [← Int.natCast_mul]; exact wrap64 (by omega) (by omega)
  have e1 := slA_midN (x := A.w s) (o := 0) (s := 1) (n := n s * wds s) (cl := true) b4 b2
  rw [Nat.zero_add, Nat.mul_one, b5] at e1
  simp -implicitDefEqProofs only [eH1, m0, eqA, eqD, go_sem]
  refine CW.mono (c_fitWords hs') ?_
  rintro v H' ⟨rfl, rfl⟩
  rw [fitP_wds hs]
  generalize ((c * wds s : Nat) : Int) = x1 at *
  generalize (((c + 1) * wds s : Nat) : Int) = x2 at *
  generalize ((c + 1 : Nat) : Int) = x3 at *
  simp -implicitDefEqProofs only [eH1, m0, m1, s0, s5, lw, w2, w3, w4, e1, eqA, eqD, go_sem]
  exact ⟨⟨_, rfl⟩, s1⟩
def CellOk (f : Nat → AV) (o : Nat) (x : Ob) (s : Nat) : Prop := f o = .int .u32 (hwN x.1.toNat x.2.length s : Nat)
theorem c_fields0 (h : HB A n H g M F) {i : Int} (hi : g i = none) : CW MN 53 [.ptr (some (A.b, 0)), .int .i64 i] H fun v H' => v = .tuple [.agg [.int .i64 0, .int .i64 0, .int .i64 0], .slice none 1 0 true, .bool false] ∧ Sm H H' := by
  refine CW_of (fn := af53) rfl ?_
  dsimp only [af53, qm, q, qG, qn, qi, qb, qB, qk, qc, qo, qg, qv, qr]
  have s1 := Chg.newRow H [.int .i64 0, .int .i64 0, .int .i64 0]
  have b1 := Blk.new H [.int .i64 0, .int .i64 0, .int .i64 0] (n := 3) rfl
  have n1 : (H.newRow [.int .i64 0, .int .i64 0, .int .i64 0]).next = H.next + 1 := rfl
  generalize eH1 : H.newRow [.int .i64 0, .int .i64 0, .int .i64 0] = H1 at *
  have h1 := h.sm s1
  have l10 := h1.lds.1
  simp -implicitDefEqProofs only [eH1, l10, eqA, eqD, go_sem]
  refine CW.mono (c_At h1.tab i) ?_
  rintro v H2 ⟨rfl, s2⟩
  rw [hi]
  obtain ⟨H3, q1, q2, q3, q4⟩ := store_new H2 [.int .i64 0, .int .i64 0] [.int .i64 0, .int .i64 0] rfl
  have b3 := b1.keep' (H' := H3) (by have := s2.1; omega) (by rw [q3.gt (by have := s2.1; omega), s2.gt (by omega)])
  obtain ⟨H4, p1, p2, p3⟩ := b3.stores (i := 0) (vs := [.int .i64 0, .int .i64 0, .int .i64 0]) (by simp)
  have l3 := (p2.rd (i := 0) (vs := [.int .i64 0, .int .i64 0, .int .i64 0]) (by simp) fun j v hj => by
    match j, hj with
    | 0, hj => simpa [updL] using hj
    | 1, hj => simpa [updL] using hj
    | 2, hj => simpa [updL] using hj).load (n := 3) rfl
  simp -implicitDefEqProofs only [eH1, l10, pl, Option.getD_none, Option.isSome_none, q1, p1, l3, Bool.false_eq_true, eqA, eqD, go_sem]
  exact ((s1.trans s2).trans q3).ch (Nat.le_refl _) p3
theorem c_fields1 (h : HB A n H g M F) {i : Int} {s c : Nat} {x : Ob} (hi : g i = some ((s : Int), (c : Int))) (hs : s < 5) (hc : c < n s) (hn : n s ≤ 512) (hx1 : x.1.toNat ≤ 4095) (hx : 0 ≤ x.1) (hl : x.2.length + 2 ≤ wds s) (hk : CellOk (F s) (c * wds s) x s) :
    CW MN 53 [.ptr (some (A.b, 0)), .int .i64 i] H fun v H' => (∃ cl, v = .tuple [.agg [.int .i64 x.1, .int .i64 x.2.length, .int .i64 s], .slice (some (A.w s, c * wds s + 2)) 1 x.2.length cl, .bool true]) ∧ HB A n H' g M F ∧ Evo A.d H H' := by
  refine CW_of (fn := af53) rfl ?_
  dsimp only [af53, qm, q, qG, qn, qi, qb, qB, qk, qc, qo, qg, qv, qr]
  obtain ⟨w0, w1⟩ := wds_bd hs
  have b2 : (c + 1) * wds s ≤ n s * wds s := Nat.mul_le_mul_right _ hc
  have b5 : (c + 1) * wds s = c * wds s + wds s := by rw [Nat.add_mul, Nat.one_mul]
  have s1 := Chg.newRow H [.int .i64 0, .int .i64 0, .int .i64 0]
  have b1 := Blk.new H [.int .i64 0, .int .i64 0, .int .i64 0] (n := 3) rfl
  have n1 : (H.newRow [.int .i64 0, .int .i64 0, .int .i64 0]).next = H.next + 1 := rfl
  generalize eH1 : H.newRow [.int .i64 0, .int .i64 0, .int .i64 0] = H1 at *
  have h1 := h.sm s1
  have l10 := h1.lds.1
  simp -implicitDefEqProofs only [eH1, l10, eqA, eqD, go_sem]
  refine CW.mono (c_At h1.tab i) ?_
  rintro v H2 ⟨rfl, s2⟩
  rw [hi]
  obtain ⟨H3, q1, q2, q3, q4⟩ := store_new H2 [.int .i64 0, .int .i64 0] [.int .i64 s, .int .i64 c] rfl
  have l4 := q4.load (n := 2) rfl
  have s3 : Sm H1 H3 := s2.trans q3
  have h3 := h1.sm s3
  simp -implicitDefEqProofs only [eH1, l10, pl, Option.getD_some, Option.isSome_some, q1, l4, Bool.false_eq_true, eqA, eqD, go_sem]
  refine CW.mono (c_cell h3 hs hc hn) ?_
  rintro v H4 ⟨⟨cl, rfl⟩, s4⟩
  have h4 := h3.sm s4
  have l0 : loadA H4 (A.w s) (c * wds s) 1 = some [.int .u32 (hwN x.1.toNat x.2.length s : Nat)] := by
    rw [(h4.wrd s hs).load (i := c * wds s) (by omega), hk]
  have wpos : (0 : Int) < ((wds s : Nat) : Int) := by omega
  simp -implicitDefEqProofs only [l0, wpos, Int.le_refl, Int.toNat_zero, eqA, eqD, go_sem]
  refine CW.mono (c_hOpen hx1 (by omega) (by omega)) ?_
  rintro v H5 ⟨rfl, s5⟩
  have ex1 : ((x.1.toNat : Nat) : Int) = x.1 := Int.toNat_of_nonneg hx
  rw [ex1]
  obtain ⟨H6, t1, t2, t3, t4⟩ := store_new H5 [.int .i64 0, .int .i64 0, .int .i64 0] [.int .i64 x.1, .int .i64 x.2.length, .int .i64 s] rfl
  have h6 := (h4.sm s5).sm t3
  have l11 := h6.lds.2
  simp -implicitDefEqProofs only [t1, l11, eqA, eqD, go_sem]
  refine CW.mono (c_Add h6 1) ?_
  rintro v H7 ⟨h7, ch7⟩
  have ne7 : H5.next ≠ A.me := by
    have := h6.new
    intro e
    have hT := h.tm
    rw [← e] at hT
    have := (h4.sm s5).new H5.next (Nat.le_refl _)
    omega
  have t5 := t4.keep (H' := H7) (by rw [ch7.1]; exact Nat.le_refl _) (ch7.2 _ ne7)
  have l7 := t5.load (n := 3) rfl
  have l8 := t5.one (j := 1) (v := .int .i64 x.2.length) rfl
  have ne8 : H.next ≠ A.me := by
    intro e
    have hT := h.tm
    rw [← e] at hT
    have := h.new H.next (Nat.le_refl _)
    omega
  have lt3 : H.next < H3.next := by have := s3.1; omega
  have lt5 : H.next < H5.next := by have := s4.1; have := s5.1; omega
  have b7 := b1.keep' (H' := H7) (by rw [ch7.1]; have := t3.1; omega) (by rw [ch7.2 _ ne8, t3.gt lt5, s5.gt (by have := s4.1; omega), s4.gt lt3, s3.gt (by omega)])
  obtain ⟨H8, p1, p2, p3⟩ := b7.stores (i := 0) (vs := [.int .i64 x.1, .int .i64 x.2.length, .int .i64 s]) (by simp)
  have l9 := (p2.rd (i := 0) (vs := [.int .i64 x.1, .int .i64 x.2.length, .int .i64 s]) (by simp) fun j v hj => by
    match j, hj with
    | 0, hj => simpa [updL] using hj
    | 1, hj => simpa [updL] using hj
    | 2, hj => simpa [updL] using hj).load (n := 3) rfl
  have hw : IntKind.i64.wrap (2 + (x.2.length : Int)) = ((2 + x.2.length : Nat) : Int) := by rw [wrap64 (by omega) (by omega)]; omega
  have e1 := slA_midN (x := A.w s) (o := c * wds s) (s := 1) (n := wds s) (cl := cl) (a := 2) (b := 2 + x.2.length) (by omega) (by omega)
  rw [Nat.mul_one, show 2 + x.2.length - 2 = x.2.length by omega] at e1
  have c2 : ((2 : Nat) : Int) = 2 := rfl
  rw [c2] at e1
  have ne9 : H5.next ≠ H.next := by omega
  have l7' : loadA H8 H5.next 0 3 = loadA H7 H5.next 0 3 := loadA_congr (p3.2 _ ne9)
  have l8' : loadA H8 H5.next 1 1 = loadA H7 H5.next 1 1 := loadA_congr (p3.2 _ ne9)
  rw [l7] at l7'
  rw [Nat.zero_add] at l8
  rw [l8] at l8'
  generalize ((2 + x.2.length : Nat) : Int) = y2 at *
  simp -implicitDefEqProofs only [l7, l8, l7', l8', hw, e1, p1, l9, eqA, eqD, go_sem]
  have sAll : Evo A.d H H7 := (Evo.of_sm (((s1.trans s3).trans s4).trans (s5.trans t3))).then (Evo.of_ch (D := A.d) ch7 (by show A.T A.me ≠ 0; rw [h.tm]; omega)) fun _ _ h => h
  have nd : A.T H.next = 0 := h.new _ (Nat.le_refl _)
  refine ⟨⟨_, rfl⟩, h7.gen (k := 99) (by rw [p3.1]; exact Nat.le_refl _) (fun y _ hy _ => p3.2 y fun e => hy (by rw [e]; exact nd)) (by omega) (fun s _ => .inl ⟨by omega, rfl⟩) (fun s _ _ => .inl ⟨by omega, rfl⟩) (.inl ⟨by omega, rfl⟩) (.inl (by omega)), ?_⟩
  refine ⟨by rw [p3.1]; exact sAll.1, fun y hy hd => ?_⟩
  rw [p3.2 y (by omega), sAll.2 y hy hd]
end
set_option maxHeartbeats 4000000
abbrev po (p : Pl) : Nat := p.2.toNat * wds p.1.toNat
def CX (F : Nat → Nat → AV) (h : HM) : Prop := ∀ i p, h.g i = some p → F p.1.toNat (po p) = .int .u32 (hwN (h.X p).1.toNat (h.X p).2.length p.1.toNat : Nat) ∧ ∀ k w, (h.X p).2[k]? = some w → F p.1.toNat (po p + 2 + k) = .int .u32 w
def CI (F : Nat → Nat → AV) (g : TG) (E : Int → Prop) : Prop := ∀ i p, g i = some p → ¬ E i → F p.1.toNat (po p + 1) = .int .u32 (2 * i)
structure HR (A : PA) (n : Nat → Nat) (H : AHeap) (h : HM) : Prop where
  ok : HOk n h
  hb : ∃ F, HB A n H h.g h.M F ∧ CX F h ∧ CI F h.g fun _ => False
section
variable {A : PA} {n : Nat → Nat} {H : AHeap} {h : HM} {F : Nat → Nat → AV}
theorem HOk.place (ok : HOk n h) {i : Int} {p : Pl} (hp : h.g i = some p) : ∃ s c : Nat, p = ((s : Int), (c : Int)) ∧ s < 5 ∧ c < n s ∧ n s ≤ 512 ∧ (0 ≤ (h.X p).1 ∧ (h.X p).1.toNat ≤ 4095) ∧ (h.X p).2.length + 2 ≤ wds s ∧ (h.X p).2.length ≤ 62 := by
  obtain ⟨h1, h2, k, h3, h4, h5⟩ := ok.at_ i p hp
  have hb := (ok.mill p.1.toNat (by omega)).inn k p.2 h4 h5
  obtain ⟨x1, x2, -⟩ := ok.x i p hp
  have hz := szP_nn (f := ((h.X p).2.length : Int)) (by rw [x2]; exact h1)
  rw [x2] at hz
  have := ok.max p.1.toNat (by omega)
  refine ⟨p.1.toNat, p.2.toNat, ?_, by omega, by omega, this, by omega, by omega, by omega⟩
  rw [Int.toNat_of_nonneg h1, Int.toNat_of_nonneg hb.1]
theorem HR.evoS (hr : HR A n H h) {H' : AHeap} (s : Sm H H') : HR A n H' h ∧ Evo A.d H H' := by
  obtain ⟨F, hb, hx⟩ := hr.hb
  exact ⟨⟨hr.ok, F, hb.sm s, hx⟩, Evo.of_sm s⟩
theorem d_me (hb : HB A n H h.g h.M F) : A.d A.me := by show A.T A.me ≠ 0; rw [hb.tm]; omega
theorem cf0 (hb : HB A n H h.g h.M F) {i : Int} (hi : h.g i = none) : CW MN 53 [.ptr (some (A.b, 0)), .int .i64 i] H fun v H' => v = .tuple [.agg [.int .i64 0, .int .i64 0, .int .i64 0], .slice none 1 0 true, .bool false] ∧ Sm H H' := c_fields0 hb hi
theorem cf1 (ok : HOk n h) (hb : HB A n H h.g h.M F) (cx : CX F h) {i : Int} {s c : Nat} (hi : h.g i = some ((s : Int), (c : Int))) : CW MN 53 [.ptr (some (A.b, 0)), .int .i64 i] H fun v H' => (∃ cl, v = .tuple [.agg [.int .i64 (h.X (s, c)).1, .int .i64 (h.X (s, c)).2.length, .int .i64 s], .slice (some (A.w s, c * wds s + 2)) 1 (h.X (s, c)).2.length cl, .bool true]) ∧ HB A n H' h.g h.M F ∧ Evo A.d H H' := by
  obtain ⟨s', c', e, h1, h2, h3, ⟨h4, h5⟩, h6, -⟩ := ok.place hi
  obtain ⟨e1, e2⟩ := Prod.mk.inj e
  obtain rfl : s = s' := by omega
  obtain rfl : c = c' := by omega
  exact c_fields1 hb hi h1 h2 h3 h5 h4 h6 (cx i _ hi).1
theorem c_Class (hr : HR A n H h) (i : Int) : CW MN 30 [.ptr (some (A.b, 0)), .int .i64 i] H fun v H' => v = .int .i64 (match obM h i with | none => -1 | some x => x.1) ∧ HR A n H' h ∧ Evo A.d H H' := by
  refine CW_of (fn := af30) rfl ?_
  dsimp only [af30, qm, q, qG, qn, qi, qb, qB, qk, qc, qo, qg, qv, qr]
  obtain ⟨F, hb, cx, ci⟩ := hr.hb
  cases hi : h.g i with
  | none =>
    have e : obM h i = none := by unfold obM; rw [hi]; rfl
    rw [e]
    simp -implicitDefEqProofs only [eqA, eqD, go_sem]
    refine CW.mono (cf0 hb hi) ?_
    rintro v H1 ⟨rfl, s1⟩
    obtain ⟨H2, q1, q2, q3, q4⟩ := store_new H1 [.int .i64 0, .int .i64 0, .int .i64 0] [.int .i64 0, .int .i64 0, .int .i64 0] rfl
    simp -implicitDefEqProofs only [q1, eqA, eqD, go_sem]
    exact hr.evoS (s1.trans q3)
  | some p =>
    obtain ⟨s, c, rfl, -⟩ := hr.ok.place hi
    have e : obM h i = some (h.X (s, c)) := by unfold obM; rw [hi]; rfl
    rw [e]
    simp -implicitDefEqProofs only [eqA, eqD, go_sem]
    refine CW.mono (cf1 hr.ok hb cx hi) ?_
    rintro v H1 ⟨⟨cl, rfl⟩, hb1, ev1⟩
    obtain ⟨H2, q1, q2, q3, q4⟩ := store_new H1 [.int .i64 0, .int .i64 0, .int .i64 0] [.int .i64 (h.X (s, c)).1, .int .i64 (h.X (s, c)).2.length, .int .i64 s] rfl
    have l0 := q4.one (j := 0) (v := .int .i64 (h.X (s, c)).1) rfl
    simp -implicitDefEqProofs only [q1, l0, Bool.false_eq_true, eqA, eqD, go_sem]
    exact ⟨⟨hr.ok, F, hb1.sm q3, cx, ci⟩, ev1.then (Evo.of_sm (D := A.d) q3) fun _ _ h => h⟩
theorem c_Fields (hr : HR A n H h) (i : Int) : CW MN 31 [.ptr (some (A.b, 0)), .int .i64 i] H fun v H' => v = .int .i64 (match obM h i with | none => -1 | some x => (x.2.length : Int)) ∧ HR A n H' h ∧ Evo A.d H H' := by
  refine CW_of (fn := af31) rfl ?_
  dsimp only [af31, qm, q, qG, qn, qi, qb, qB, qk, qc, qo, qg, qv, qr]
  obtain ⟨F, hb, cx, ci⟩ := hr.hb
  cases hi : h.g i with
  | none =>
    have e : obM h i = none := by unfold obM; rw [hi]; rfl
    rw [e]
    simp -implicitDefEqProofs only [eqA, eqD, go_sem]
    refine CW.mono (cf0 hb hi) ?_
    rintro v H1 ⟨rfl, s1⟩
    obtain ⟨H2, q1, q2, q3, q4⟩ := store_new H1 [.int .i64 0, .int .i64 0, .int .i64 0] [.int .i64 0, .int .i64 0, .int .i64 0] rfl
    simp -implicitDefEqProofs only [q1, eqA, eqD, go_sem]
    exact hr.evoS (s1.trans q3)
  | some p =>
    obtain ⟨s, c, rfl, -⟩ := hr.ok.place hi
    have e : obM h i = some (h.X (s, c)) := by unfold obM; rw [hi]; rfl
    rw [e]
    simp -implicitDefEqProofs only [eqA, eqD, go_sem]
    refine CW.mono (cf1 hr.ok hb cx hi) ?_
    rintro v H1 ⟨⟨cl, rfl⟩, hb1, ev1⟩
    obtain ⟨H2, q1, q2, q3, q4⟩ := store_new H1 [.int .i64 0, .int .i64 0, .int .i64 0] [.int .i64 (h.X (s, c)).1, .int .i64 (h.X (s, c)).2.length, .int .i64 s] rfl
    have l0 := q4.one (j := 1) (v := .int .i64 (h.X (s, c)).2.length) rfl
    rw [Nat.zero_add] at l0
    simp -implicitDefEqProofs only [q1, l0, Bool.false_eq_true, eqA, eqD, go_sem]
    exact ⟨⟨hr.ok, F, hb1.sm q3, cx, ci⟩, ev1.then (Evo.of_sm (D := A.d) q3) fun _ _ h => h⟩
theorem c_Get (hr : HR A n H h) (i k : Int) : CW MN 16 [.ptr (some (A.b, 0)), .int .i64 i, .int .i64 k] H fun v H' => v = .tuple [.int .u32 ((getM h i k).getD 0), .bool (getM h i k).isSome] ∧ HR A n H' h ∧ Evo A.d H H' := by
  refine CW_of (fn := af16) rfl ?_
  dsimp only [af16, qm, q, qG, qn, qi, qb, qB, qk, qc, qo, qg, qv, qr]
  obtain ⟨F, hb, cx, ci⟩ := hr.hb
  cases hi : h.g i with
  | none =>
    have e : getM h i k = none := by unfold getM obM; rw [hi]; rfl
    rw [e]
    simp -implicitDefEqProofs only [eqA, eqD, go_sem]
    refine CW.mono (cf0 hb hi) ?_
    rintro v H1 ⟨rfl, s1⟩
    obtain ⟨H2, q1, q2, q3, q4⟩ := store_new H1 [.int .i64 0, .int .i64 0, .int .i64 0] [.int .i64 0, .int .i64 0, .int .i64 0] rfl
    simp -implicitDefEqProofs only [q1, Option.getD_none, Option.isSome_none, eqA, eqD, go_sem]
    exact hr.evoS (s1.trans q3)
  | some p =>
    obtain ⟨s, c, rfl, hs, hc, hn, -, hl, -⟩ := hr.ok.place hi
    have e : getM h i k = if 0 ≤ k then (h.X (s, c)).2[k.toNat]? else none := by unfold getM obM; rw [hi]; rfl
    rw [e]
    have b2 : (c + 1) * wds s ≤ n s * wds s := Nat.mul_le_mul_right _ hc
    have b5 : (c + 1) * wds s = c * wds s + wds s := by rw [Nat.add_mul, Nat.one_mul]
    simp -implicitDefEqProofs only [eqA, eqD, go_sem]
    refine CW.mono (cf1 hr.ok hb cx hi) ?_
    rintro v H1 ⟨⟨cl, rfl⟩, hb1, ev1⟩
    have hfv := (cx i _ hi).2
    simp only [po, Int.toNat_natCast] at hfv
    generalize h.X (s, c) = x at *
    obtain ⟨H2, q1, q2, q3, q4⟩ := store_new H1 [.int .i64 0, .int .i64 0, .int .i64 0] [.int .i64 x.1, .int .i64 x.2.length, .int .i64 s] rfl
    have hb2 := hb1.sm q3
    have ev2 : Evo A.d H H2 := ev1.then (Evo.of_sm (D := A.d) q3) fun _ _ h => h
    have l11 := hb2.lds.2
    by_cases k0 : k < 0
    · rw [if_neg (by omega)]
      simp -implicitDefEqProofs only [q1, k0, Option.getD_none, Option.isSome_none, Bool.false_eq_true, eqA, eqD, go_sem]
      exact ⟨⟨hr.ok, F, hb2, cx, ci⟩, ev2⟩
    · have k0' : 0 ≤ k := by omega
      rw [if_pos k0']
      by_cases k1 : (x.2.length : Int) ≤ k
      · rw [List.getElem?_eq_none (by omega)]
        simp -implicitDefEqProofs only [q1, k0, k1, Option.getD_none, Option.isSome_none, Bool.false_eq_true, eqA, eqD, go_sem]
        exact ⟨⟨hr.ok, F, hb2, cx, ci⟩, ev2⟩
      · have k1' : k < (x.2.length : Int) := by omega
        have hg : x.2[k.toNat]? = some (x.2[k.toNat]'(by omega)) := List.getElem?_eq_getElem (by omega)
        rw [hg]
        simp -implicitDefEqProofs only [q1, k0, k1, l11, Bool.false_eq_true, eqA, eqD, go_sem]
        refine CW.mono (c_Add hb2 1) ?_
        rintro v H3 ⟨hb3, ch3⟩
        have ld : loadA H3 (A.w s) (c * wds s + 2 + k.toNat) 1 = some [.int .u32 (x.2[k.toNat]'(by omega))] := by
          rw [(hb3.wrd s hs).load (i := c * wds s + 2 + k.toNat) (by omega), hfv _ _ hg]
        simp -implicitDefEqProofs only [q1, k0, k1, k0', k1', l11, ld, Option.getD_some, Option.isSome_some, Bool.false_eq_true, eqA, eqD, go_sem]
        exact ⟨⟨hr.ok, F, hb3, cx, ci⟩, ev2.then (Evo.of_ch (D := A.d) ch3 (d_me hb)) fun _ _ h => h⟩
end
set_option maxHeartbeats 4000000
section
variable {A : PA} {n : Nat → Nat} {H : AHeap} {h : HM} {F : Nat → Nat → AV}
theorem n_pos {s c : Nat} (hc : c < n s) : n s ≠ 0 := by omega
theorem c_ColorB (ok : HOk n h) (hb : HB A n H h.g h.M F) (i : Int) : CW MN 36 [.ptr (some (A.b, 0)), .int .i64 i] H fun v H' => v = .int .i64 (colorM h i) ∧ Sm H H' := by
  refine CW_of (fn := af36) rfl ?_
  dsimp only [af36, qm, q, qG, qn, qi, qb, qB, qk, qc, qo, qg, qv, qr]
  have l10 := hb.lds.1
  simp -implicitDefEqProofs only [l10, eqA, eqD, go_sem]
  refine CW.mono (c_At hb.tab i) ?_
  rintro v H1 ⟨rfl, s1⟩
  unfold colorM
  cases hi : h.g i with
  | none =>
    obtain ⟨H2, q1, q2, q3, q4⟩ := store_new H1 [.int .i64 0, .int .i64 0] [.int .i64 0, .int .i64 0] rfl
    simp -implicitDefEqProofs only [pl, q1, Option.getD_none, Option.isSome_none, eqA, eqD, go_sem]
    exact s1.trans q3
  | some p =>
    obtain ⟨s, c, rfl, hs, hc, hn, -⟩ := ok.place hi
    obtain ⟨H2, q1, q2, q3, q4⟩ := store_new H1 [.int .i64 0, .int .i64 0] [.int .i64 s, .int .i64 c] rfl
    have hb2 := (hb.sm s1).sm q3
    have l0 := q4.one (j := 0) (v := .int .i64 s) rfl
    have l1 := q4.one (j := 1) (v := .int .i64 c) rfl
    rw [Nat.zero_add] at l1
    have lm := hb2.ldM hs (n_pos hc)
    have s0 : (0 : Int) ≤ s := by omega
    have s5 : (s : Int) < 5 := by omega
    simp -implicitDefEqProofs only [pl, q1, l0, l1, lm, s0, s5, Option.getD_some, Option.isSome_some, Bool.false_eq_true, eqA, eqD, go_sem]
    refine CW.mono (c_mColor (hb2.mil s hs (n_pos hc)) c) ?_
    rintro v H3 ⟨rfl, rfl⟩
    simp -implicitDefEqProofs only [pl, q1, l0, l1, lm, s0, s5, eqA, eqD, go_sem]
    exact s1.trans q3
theorem c_shadeB (ok : HOk n h) (hb : HB A n H h.g h.M F) {w : Nat} (hw : w < 4294967296) : CW MN 54 [.ptr (some (A.b, 0)), .int .u32 w] H fun _ H' => HB A n H' h.g (shadeM h w).M F ∧ Evo A.d H H' := by
  refine CW_of (fn := af54) rfl ?_
  dsimp only [af54, qm, q, qG, qn, qi, qb, qB, qk, qc, qo, qg, qv, qr]
  simp -implicitDefEqProofs only [eqA, eqD, go_sem]
  refine CW.mono (c_ID hw) ?_
  rintro v H' ⟨rfl, rfl⟩
  unfold shadeM
  cases hid : idP (w : Int) with
  | none =>
    simp -implicitDefEqProofs only [Option.getD_none, Option.isSome_none, eqA, eqD, go_sem]
    exact ⟨hb, Evo.refl _ _⟩
  | some i =>
    have l10 := hb.lds.1
    simp -implicitDefEqProofs only [Option.getD_some, Option.isSome_some, l10, Bool.false_eq_true, eqA, eqD, go_sem]
    refine CW.mono (c_At hb.tab i) ?_
    rintro v H1 ⟨rfl, s1⟩
    cases hi : h.g i with
    | none =>
      obtain ⟨H2, q1, q2, q3, q4⟩ := store_new H1 [.int .i64 0, .int .i64 0] [.int .i64 0, .int .i64 0] rfl
      simp -implicitDefEqProofs only [pl, q1, Option.getD_none, Option.isSome_none, Bool.false_eq_true, eqA, eqD, go_sem]
      exact ⟨(hb.sm s1).sm q3, Evo.of_sm (s1.trans q3)⟩
    | some p =>
      obtain ⟨s, c, rfl, hs, hc, hn, -⟩ := ok.place hi
      obtain ⟨H2, q1, q2, q3, q4⟩ := store_new H1 [.int .i64 0, .int .i64 0] [.int .i64 s, .int .i64 c] rfl
      have hb2 := (hb.sm s1).sm q3
      have l0 := q4.one (j := 0) (v := .int .i64 s) rfl
      have l1 := q4.one (j := 1) (v := .int .i64 c) rfl
      rw [Nat.zero_add] at l1
      have lm := hb2.ldM hs (n_pos hc)
      have s0 : (0 : Int) ≤ s := by omega
      have s5 : (s : Int) < 5 := by omega
      simp -implicitDefEqProofs only [pl, q1, l0, l1, lm, s0, s5, Option.getD_some, Option.isSome_some, Int.toNat_natCast, eqA, eqD, go_sem]
      refine CW.mono (c_mShade (hb2.mil s hs (n_pos hc)) c) ?_
      rintro v H3 ⟨rfl, m3, ev3, nn3⟩
      have hb3 := hb2.mill hs (n_pos hc) m3 ev3
      simp -implicitDefEqProofs only [pl, q1, l0, l1, lm, s0, s5, eqA, eqD, go_sem]
      refine ⟨hb3, (Evo.of_sm (s1.trans q3)).then ev3 fun x _ hx => ?_⟩
      show A.T x ≠ 0
      rw [hb.tl s hs (n_pos hc) x hx]; omega
theorem shadeM_g (h : HM) (w : Int) : (shadeM h w).g = h.g ∧ (shadeM h w).X = h.X := by
  unfold shadeM
  split
  · exact ⟨rfl, rfl⟩
  · split <;> exact ⟨rfl, rfl⟩
theorem CX.sh {h' : HM} (c : CX F h) (hg : h'.g = h.g) (hX : h'.X = h.X) : CX F h' := by
  intro i p hp
  rw [hg] at hp
  rw [hX]
  exact c i p hp
theorem c_shade (hr : HR A n H h) {w : Nat} (hw : w < 4294967296) : CW MN 54 [.ptr (some (A.b, 0)), .int .u32 w] H fun _ H' => HR A n H' (shadeM h w) ∧ Evo A.d H H' := by
  obtain ⟨F, hb, cx, ci⟩ := hr.hb
  obtain ⟨e1, e2⟩ := shadeM_g h w
  refine CW.mono (c_shadeB hr.ok hb hw) ?_
  rintro v H' ⟨hb', ev⟩
  exact ⟨⟨hr.ok.shade w, F, by rw [e1]; exact hb', cx.sh e1 e2, by rw [e1]; exact ci⟩, ev⟩
theorem c_Color (hr : HR A n H h) (i : Int) : CW MN 36 [.ptr (some (A.b, 0)), .int .i64 i] H fun v H' => v = .int .i64 (colorM h i) ∧ HR A n H' h ∧ Evo A.d H H' := by
  obtain ⟨F, hb, cx, ci⟩ := hr.hb
  refine CW.mono (c_ColorB hr.ok hb i) ?_
  rintro v H' ⟨e, s⟩
  exact ⟨e, hr.evoS s⟩
theorem off_ne {w c c' j j' : Nat} (hj : j < w) (hj' : j' < w) (hne : c ≠ c') : c * w + j ≠ c' * w + j' := by
  intro e
  rcases Nat.lt_or_gt_of_ne hne with hlt | hlt
  · have : (c + 1) * w ≤ c' * w := Nat.mul_le_mul_right w hlt
    rw [Nat.add_mul, Nat.one_mul] at this; omega
  · have : (c' + 1) * w ≤ c * w := Nat.mul_le_mul_right w hlt
    rw [Nat.add_mul, Nat.one_mul] at this; omega
theorem F_other {s c j s' c' j' : Nat} {v : AV} (hj : j < wds s) (hj' : j' < wds s') (hne : s ≠ s' ∨ c ≠ c') : upd F s (upd (F s) (c * wds s + j) v) s' (c' * wds s' + j') = F s' (c' * wds s' + j') := by
  by_cases e : s' = s
  · subst e
    rw [upd_same, upd_ne]
    exact Ne.symm (off_ne hj hj' (by rcases hne with h | h; exact absurd rfl h; exact h))
  · rw [upd_ne e]
theorem F_same {s o : Nat} {v : AV} : upd F s (upd (F s) o v) s o = v := by rw [upd_same, upd_same]
theorem F_ne {s o o' : Nat} {v : AV} (h : o' ≠ o) : upd F s (upd (F s) o v) s o' = F s o' := by rw [upd_same, upd_ne h]
theorem HB.word (hb : HB A n H h.g h.M F) {s c j : Nat} (hs : s < 5) (hc : c < n s) (hj : j < wds s) (v : AV) : ∃ H', storeA H (A.w s) (c * wds s + j) [v] = some H' ∧ HB A n H' h.g h.M (upd F s (upd (F s) (c * wds s + j) v)) ∧ Ch (A.w s) H H' := by
  have b2 : (c + 1) * wds s ≤ n s * wds s := Nat.mul_le_mul_right _ hc
  have b5 : (c + 1) * wds s = c * wds s + wds s := by rw [Nat.add_mul, Nat.one_mul]
  obtain ⟨H', e1, e2, e3, e4⟩ := (hb.wrd s hs).store (i := c * wds s + j) (by omega) v
  exact ⟨H', e1, hb.words hs e2 ⟨e3, e4⟩, e3, e4⟩
theorem d_w (hb : HB A n H h.g h.M F) {s : Nat} (hs : s < 5) : A.d (A.w s) := by show A.T (A.w s) ≠ 0; rw [hb.tw s hs]; omega
theorem pl_ne {s c s' c' : Nat} (e : (((s : Int), (c : Int)) : Pl) ≠ ((s' : Int), (c' : Int))) : s ≠ s' ∨ c ≠ c' := by
  by_cases h1 : s = s'
  · right; intro h2; exact e (by rw [h1, h2])
  · exact .inl h1
theorem put_cx (ok : HOk n h) (cx : CX F h) (ci : CI F h.g fun _ => False) {i : Int} {s c : Nat} (hi : h.g i = some ((s : Int), (c : Int))) {k : Nat} (hk : k < (h.X (s, c)).2.length) (w : Int) :
    CX (upd F s (upd (F s) (c * wds s + (2 + k)) (.int .u32 w))) { h with X := fset h.X (s, c) ((h.X (s, c)).1, (h.X (s, c)).2.set k w) } ∧ CI (upd F s (upd (F s) (c * wds s + (2 + k)) (.int .u32 w))) h.g fun _ => False := by
  obtain ⟨s0, c0, e, -, -, -, -, hl, -⟩ := ok.place hi
  obtain ⟨e1, e2⟩ := Prod.mk.inj e
  obtain rfl : s = s0 := by omega
  have hw4 : 4 ≤ wds s := by
    have : s < 5 := by have := (ok.at_ i _ hi).2.1; simp at this; omega
    exact (wds_bd this).1
  constructor
  · intro i' p' hp'
    have hp : h.g i' = some p' := hp'
    obtain ⟨s', c', rfl, hs', -, -, -, hl', -⟩ := ok.place hp
    obtain ⟨x1, x2⟩ := cx i' _ hp
    simp only [po, Int.toNat_natCast] at x1 x2 ⊢
    show upd F s _ s' (c' * wds s') = .int .u32 (hwN (fset h.X _ _ _).1.toNat (fset h.X _ _ _).2.length s' : Nat) ∧ ∀ k' w', (fset h.X _ _ _).2[k']? = some w' → upd F s _ s' (c' * wds s' + 2 + k') = .int .u32 w'
    by_cases ep : (((s' : Int), (c' : Int)) : Pl) = ((s : Int), (c : Int))
    · obtain ⟨f1, f2⟩ := Prod.mk.inj ep
      obtain rfl : s' = s := by omega
      obtain rfl : c' = c := by omega
      rw [fset_same]
      refine ⟨by rw [F_ne (by omega), List.length_set]; exact x1, fun k' w' hk' => ?_⟩
      dsimp only at hk'
      rw [List.getElem?_set] at hk'
      by_cases ek : k = k'
      · subst ek
        rw [if_pos rfl, if_pos hk] at hk'
        obtain rfl := Option.some.inj hk'
        rw [show c' * wds s' + 2 + k = c' * wds s' + (2 + k) by omega, F_same]
      · rw [if_neg ek] at hk'
        rw [F_ne (by omega)]
        exact x2 k' w' hk'
    · have hne := pl_ne (Ne.symm ep)
      have hw4' := (wds_bd hs').1
      rw [fset_ne ep]
      refine ⟨?_, fun k' w' hk' => ?_⟩
      · have := F_other (F := F) (v := .int .u32 w) (j := 2 + k) (j' := 0) (s := s) (c := c) (s' := s') (c' := c') (by omega) (by omega) hne
        rw [Nat.add_zero] at this
        rw [this]; exact x1
      · have hlt := (List.getElem?_eq_some_iff.1 hk').1
        have := F_other (F := F) (v := .int .u32 w) (j := 2 + k) (j' := 2 + k') (s := s) (c := c) (s' := s') (c' := c') (by omega) (by omega) hne
        rw [Nat.add_assoc, this, ← Nat.add_assoc]; exact x2 k' w' hk'
  · intro i' p' hp hE
    obtain ⟨s', c', rfl, hs', -⟩ := ok.place hp
    have hci := ci i' _ hp hE
    simp only [po, Int.toNat_natCast] at hci ⊢
    by_cases ep : (((s' : Int), (c' : Int)) : Pl) = ((s : Int), (c : Int))
    · obtain ⟨f1, f2⟩ := Prod.mk.inj ep
      obtain rfl : s' = s := by omega
      obtain rfl : c' = c := by omega
      rw [F_ne (by omega)]; exact hci
    · have hw4' := (wds_bd hs').1
      rw [F_other (by omega) (by omega) (pl_ne (Ne.symm ep))]; exact hci
theorem c_Put (hr : HR A n H h) (i k : Int) {w : Nat} (hw : w < 4294967296) : CW MN 14 [.ptr (some (A.b, 0)), .int .i64 i, .int .i64 k, .int .u32 w] H fun v H' => v = .bool (putM h i k w).1 ∧ HR A n H' (putM h i k w).2 ∧ Evo A.d H H' := by
  refine CW_of (fn := af14) rfl ?_
  dsimp only [af14, qm, q, qG, qn, qi, qb, qB, qk, qc, qo, qg, qv, qr]
  obtain ⟨F, hb, cx, ci⟩ := hr.hb
  have okp := hr.ok.put i k (w := (w : Int)) (by omega)
  unfold putM at okp ⊢
  cases hi : h.g i with
  | none =>
    simp -implicitDefEqProofs only [eqA, eqD, go_sem]
    refine CW.mono (cf0 hb hi) ?_
    rintro v H1 ⟨rfl, s1⟩
    obtain ⟨H2, q1, q2, q3, q4⟩ := store_new H1 [.int .i64 0, .int .i64 0, .int .i64 0] [.int .i64 0, .int .i64 0, .int .i64 0] rfl
    simp -implicitDefEqProofs only [q1, eqA, eqD, go_sem]
    exact hr.evoS (s1.trans q3)
  | some p =>
    obtain ⟨s, c, rfl, hs, hc, hn, -, hl, -⟩ := hr.ok.place hi
    rw [hi] at okp
    dsimp only at okp ⊢
    simp -implicitDefEqProofs only [eqA, eqD, go_sem]
    refine CW.mono (cf1 hr.ok hb cx hi) ?_
    rintro v H1 ⟨⟨cl, rfl⟩, hb1, ev1⟩
    obtain ⟨H2, q1, q2, q3, q4⟩ := store_new H1 [.int .i64 0, .int .i64 0, .int .i64 0] [.int .i64 (h.X (s, c)).1, .int .i64 (h.X (s, c)).2.length, .int .i64 s] rfl
    have hb2 := hb1.sm q3
    have ev2 : Evo A.d H H2 := ev1.then (Evo.of_sm (D := A.d) q3) fun _ _ h => h
    have hr2 : HR A n H2 h := ⟨hr.ok, F, hb2, cx, ci⟩
    have l11 := hb2.lds.2
    by_cases k0 : k < 0
    · rw [if_neg (by omega)]
      simp -implicitDefEqProofs only [q1, k0, Bool.false_eq_true, eqA, eqD, go_sem]
      exact ⟨hr2, ev2⟩
    by_cases k1 : ((h.X (s, c)).2.length : Int) ≤ k
    · rw [if_neg (by omega)]
      simp -implicitDefEqProofs only [q1, k0, k1, Bool.false_eq_true, eqA, eqD, go_sem]
      exact ⟨hr2, ev2⟩
    by_cases hw0 : w = 0
    · rw [if_neg (by omega)]
      have hz : ((w : Int) == 0) = true := by simp [hw0]
      simp -implicitDefEqProofs only [q1, k0, k1, hz, Bool.false_eq_true, eqA, eqD, go_sem]
      exact ⟨hr2, ev2⟩
    have k0' : 0 ≤ k := by omega
    have k1' : k < ((h.X (s, c)).2.length : Int) := by omega
    have hz : ((w : Int) == 0) = false := by simp [hw0]
    have hcond : 0 ≤ k ∧ k < ((h.X (s, c)).2.length : Int) ∧ (w : Int) ≠ 0 := ⟨k0', k1', by omega⟩
    rw [if_pos hcond] at okp ⊢
    simp -implicitDefEqProofs only [q1, k0, k1, hz, l11, Bool.false_eq_true, eqA, eqD, go_sem]
    refine CW.mono (c_Add hb2 1) ?_
    rintro v H3 ⟨hb3, ch3⟩
    obtain ⟨kn, rfl⟩ := Int.eq_ofNat_of_zero_le k0'
    rw [Int.toNat_natCast] at okp ⊢
    obtain ⟨H4, e4, hb4, ch4⟩ := hb3.word hs hc (j := 2 + kn) (by omega) (.int .u32 w)
    rw [← Nat.add_assoc] at e4
    obtain ⟨cx4, ci4⟩ := put_cx hr.ok cx ci hi (k := kn) (by omega) (w : Int)
    have ev4 : Evo A.d H H4 := (ev2.then (Evo.of_ch (D := A.d) ch3 (d_me hb)) fun _ _ h => h).then (Evo.of_ch (D := A.d) ch4 (d_w hb hs)) fun _ _ h => h
    have ok4 : HOk n { h with X := fset h.X (s, c) ((h.X (s, c)).1, (h.X (s, c)).2.set kn w) } := hr.ok.putX hi (by simp) fun x hx => by
      rcases List.mem_or_eq_of_mem_set hx with hx | rfl
      · exact (hr.ok.x _ _ hi).2.2 x hx
      · omega
    have hr4 : HR A n H4 { h with X := fset h.X (s, c) ((h.X (s, c)).1, (h.X (s, c)).2.set kn w) } := ⟨ok4, _, hb4, cx4, ci4⟩
    simp -implicitDefEqProofs only [q1, k0, k1, k0', k1', hz, l11, e4, Int.toNat_natCast, eqA, eqD, go_sem]
    refine CW.mono (c_Color hr4 i) ?_
    rintro v H5 ⟨rfl, hr5, ev5⟩
    have ecol : colorM { h with X := fset h.X (s, c) ((h.X (s, c)).1, (h.X (s, c)).2.set kn w) } i = colM (h.M s) c := by
      unfold colorM
      show (match h.g i with | none => -1 | some p => colM (h.M p.1.toNat) p.2) = _
      rw [hi]
      rfl
    rw [ecol]
    by_cases hcol : colM (h.M s) c = 1
    · rw [if_pos (by simpa using hcol)]
      simp -implicitDefEqProofs only [hcol, eqA, eqD, go_sem]
      refine CW.mono (c_shade hr5 hw) ?_
      rintro v H6 ⟨hr6, ev6⟩
      simp -implicitDefEqProofs only [eqA, eqD, go_sem]
      exact ⟨hr6, (ev4.then ev5 fun _ _ h => h).then ev6 fun _ _ h => h⟩
    · rw [if_neg (by simpa using hcol)]
      have hcol' : (colM (h.M s) c == 1) = false := by simpa using hcol
      simp -implicitDefEqProofs only [hcol', Bool.false_eq_true, eqA, eqD, go_sem]
      exact ⟨hr5, ev4.then ev5 fun _ _ h => h⟩
end
set_option maxHeartbeats 4000000
def U32 (n : Int) : Prop := 0 ≤ n ∧ n < 4294967296
section
variable {A : PA} {n : Nat → Nat} {H : AHeap} {h : HM} {F : Nat → Nat → AV}
def RowW (A : PA) (H : AHeap) (v : AV) (l : List Int) : Prop := ∃ a s0 cl, v = .slice a s0 l.length cl ∧ l.length ≤ 9223372036854775807 ∧ (∀ w, w ∈ l → U32 w) ∧ (l.length ≠ 0 → ∃ x o, a = some (x, o) ∧ A.T x = 0 ∧ Rd H x o (l.map fun w => .int .u32 w))
theorem RowW.keep {H' : AHeap} {v : AV} {l : List Int} (h : RowW A H v l) (ev : Evo A.d H H') : RowW A H' v l := by
  obtain ⟨a, s0, cl, e, hm, hu, hr⟩ := h
  refine ⟨a, s0, cl, e, hm, hu, fun h0 => ?_⟩
  obtain ⟨x, o, e, hT, hr⟩ := hr h0
  exact ⟨x, o, e, hT, hr.keep ev.1 (ev.2 x hr.1 fun hd => hd hT)⟩
theorem RowW.at {a : Option (Nat × Nat)} {s0 m : Nat} {cl : Bool} {l : List Int} (h : RowW A H (.slice a s0 m cl) l) {j : Nat} (hj : j < l.length) : ∃ x o, a = some (x, o) ∧ loadA H x (o + j) 1 = some [.int .u32 l[j]] := by
  obtain ⟨a', s0', cl', e, hm, hu, hr⟩ := h
  cases e
  obtain ⟨x, o, rfl, -, hr⟩ := hr (by omega)
  exact ⟨x, o, rfl, hr.one (j := j) (v := .int .u32 l[j]) (by rw [List.getElem?_map, List.getElem?_eq_getElem hj]; rfl)⟩
theorem c_Hold (hr : HR A n H h) {v : AV} {l : List Int} (hl : RowW A H v l) : CW MN 19 [.ptr (some (A.b, 0)), v] H fun _ H' => HR A n H' (holdM h l) ∧ Evo A.d H H' := by
  refine CW_of (fn := af19) rfl ?_
  dsimp only [af19, qm, q, qG, qn, qi, qb, qB, qk, qc, qo, qg, qv, qr]
  have hl0 := hl
  obtain ⟨a, s0, cl, rfl, hm, hu, -⟩ := hl
  simp -implicitDefEqProofs only [eqA, eqD, go_sem]
  refine WP_mono (Q := fun ex fr H' => ex = .exit 0 ∧ HR A n H' (holdM h l) ∧ Evo A.d H H') ?_ (WP_loop (fun m fr H' => ∃ j : Nat, m = l.length - j ∧ j ≤ l.length ∧ fr.get 0 = some (.ptr (some (A.b, 0))) ∧ fr.get 6 = some (.slice a s0 l.length cl) ∧ fr.get 7 = some (.int .i64 l.length) ∧ fr.get 8 = some (.int .i64 j) ∧ HR A n H' (holdM h (l.take j)) ∧ Evo A.d H H') l.length ?_ ?_)
  · rintro ex fr H' ⟨rfl, h1⟩
    simp -implicitDefEqProofs only [eqA, eqD, go_sem]
    exact h1
  · refine ⟨0, rfl, by omega, ?_⟩
    simp -implicitDefEqProofs only [eqA, eqD, go_sem]
    exact ⟨hr, Evo.refl _ _⟩
  · rintro m fr H1 ⟨j, hm', hj, g0, g6, g7, g8, hr1, ev1⟩
    have j0 : (0 : Int) ≤ j := by omega
    by_cases hlt : j < l.length
    · have hlt' : (j : Int) < (l.length : Int) := by omega
      have hw := wrapS hlt hm
      obtain ⟨x, o, rfl, ld⟩ := (hl0.keep ev1).at hlt
      have hub := hu _ (List.getElem_mem hlt)
      obtain ⟨w, hwe⟩ := Int.eq_ofNat_of_zero_le hub.1
      rw [hwe] at ld
      have hu2 : w < 4294967296 := by have := hub.2; omega
      simp -implicitDefEqProofs only [g0, g6, g7, g8, hlt', j0, ld, eqA, eqD, go_sem]
      refine CW.mono (c_shade hr1 hu2) ?_
      rintro v H2 ⟨hr2, ev2⟩
      have e : holdM h (l.take (j + 1)) = shadeM (holdM h (l.take j)) w := by
        unfold holdM
        rw [List.take_add_one, List.getElem?_eq_getElem hlt, hwe, Option.toList_some, List.foldl_append]; rfl
      simp -implicitDefEqProofs only [g0, g6, g7, g8, hw, eqA, eqD, go_sem]
      exact ⟨l.length - (j + 1), by omega, j + 1, rfl, by omega, rfl, by rw [e]; exact hr2, ev1.then ev2 fun _ _ h => h⟩
    · obtain rfl : j = l.length := by omega
      rw [List.take_length] at hr1
      simp -implicitDefEqProofs only [g0, g6, g7, g8, Int.lt_irrefl, Bool.false_eq_true, eqA, eqD, go_sem]
      exact ⟨hr1, ev1⟩
theorem id_cx (ok : HOk n h) (cx : CX F h) {E E' : Int → Prop} (ci : CI F h.g E) {i : Int} {s c : Nat} (hi : h.g i = some ((s : Int), (c : Int))) (hE : ∀ j, E j → j ≠ i → E' j) :
    CX (upd F s (upd (F s) (c * wds s + 1) (.int .u32 (2 * i)))) h ∧ CI (upd F s (upd (F s) (c * wds s + 1) (.int .u32 (2 * i)))) h.g E' := by
  have hs5 : s < 5 := by have := (ok.at_ i _ hi).2.1; simp at this; omega
  have hw4 := (wds_bd hs5).1
  constructor
  · intro i' p' hp
    obtain ⟨s', c', rfl, hs', -, -, -, hl', -⟩ := ok.place hp
    obtain ⟨x1, x2⟩ := cx i' _ hp
    simp only [po, Int.toNat_natCast] at x1 x2 ⊢
    have hw4' := (wds_bd hs').1
    by_cases ep : (((s' : Int), (c' : Int)) : Pl) = ((s : Int), (c : Int))
    · obtain ⟨f1, f2⟩ := Prod.mk.inj ep
      obtain rfl : s' = s := by omega
      obtain rfl : c' = c := by omega
      exact ⟨by rw [F_ne (by omega)]; exact x1, fun k w hk => by rw [F_ne (by omega)]; exact x2 k w hk⟩
    · have hne := pl_ne (Ne.symm ep)
      refine ⟨?_, fun k w hk => ?_⟩
      · have := F_other (F := F) (v := .int .u32 (2 * i)) (j := 1) (j' := 0) (s := s) (c := c) (s' := s') (c' := c') (by omega) (by omega) hne
        simp only [Nat.add_zero] at this
        rw [this]; exact x1
      · have hlt := (List.getElem?_eq_some_iff.1 hk).1
        have := F_other (F := F) (v := .int .u32 (2 * i)) (j := 1) (j' := 2 + k) (s := s) (c := c) (s' := s') (c' := c') (by omega) (by omega) hne
        rw [Nat.add_assoc, this, ← Nat.add_assoc]; exact x2 k w hk
  · intro i' p' hp hE'
    obtain ⟨s', c', rfl, hs', -⟩ := ok.place hp
    simp only [po, Int.toNat_natCast]
    by_cases ep : (((s' : Int), (c' : Int)) : Pl) = ((s : Int), (c : Int))
    · obtain ⟨f1, f2⟩ := Prod.mk.inj ep
      obtain rfl : s' = s := by omega
      obtain rfl : c' = c := by omega
      rw [F_same, ok.inj _ _ _ hp hi]
    · have hw4' := (wds_bd hs').1
      rw [F_other (by omega) (by omega) (pl_ne (Ne.symm ep))]
      have hne : i' ≠ i := by
        rintro rfl
        rw [hi] at hp
        exact ep (Option.some.inj hp).symm
      have := ci i' _ hp fun hh => hE' (hE i' hh hne)
      simpa only [po, Int.toNat_natCast] using this
theorem c_Swap (hr : HR A n H h) (a b : Int) : CW MN 17 [.ptr (some (A.b, 0)), .int .i64 a, .int .i64 b] H fun v H' => v = .bool (swapM h a b).1 ∧ HR A n H' (swapM h a b).2 ∧ Evo A.d H H' := by
  refine CW_of (fn := af17) rfl ?_
  dsimp only [af17, qm, q, qG, qn, qi, qb, qB, qk, qc, qo, qg, qv, qr]
  simp -implicitDefEqProofs only [eqA, eqD, go_sem]
  refine CW.mono (c_Color hr a) ?_
  rintro v H1 ⟨rfl, hr1, ev1⟩
  simp -implicitDefEqProofs only [eqA, eqD, go_sem]
  refine CW.mono (c_Color hr1 b) ?_
  rintro v H2 ⟨rfl, hr2, ev2⟩
  obtain ⟨F, hb, cx, ci⟩ := hr2.hb
  have l10 := hb.lds.1
  have ev12 : Evo A.d H H2 := ev1.then ev2 fun _ _ h => h
  simp -implicitDefEqProofs only [l10, eqA, eqD, go_sem]
  refine CW.mono (c_Swap_t hb.tab a b) ?_
  rintro v H3 ⟨rfl, t3, ev3⟩
  have hb3 := hb.table t3 ev3
  have evT : Evo A.d H2 H3 := (Evo.refl A.d H2).then ev3 fun x _ hx => by
    show A.T x ≠ 0
    rcases hx with rfl | rfl
    · rw [hb.tt.2.1]; omega
    · rw [hb.tt.2.2]; omega
  have ev13 : Evo A.d H H3 := ev12.then evT fun _ _ h => h
  unfold swapM
  by_cases hab : (h.g a).isSome = true ∧ (h.g b).isSome = true
  · obtain ⟨ha, hbb⟩ := hab
    obtain ⟨p, hp⟩ := Option.isSome_iff_exists.1 ha
    obtain ⟨q, hq⟩ := Option.isSome_iff_exists.1 hbb
    have hand : ((h.g a).isSome && (h.g b).isSome) = true := by rw [ha, hbb]; rfl
    rw [if_pos hand]
    have l11 := hb3.lds.2
    simp -implicitDefEqProofs only [hand, l11, Bool.false_eq_true, eqA, eqD, go_sem]
    refine CW.mono (c_Add hb3 2) ?_
    rintro v H4 ⟨hb4, ch4⟩
    have ev14 : Evo A.d H H4 := ev13.then (Evo.of_ch (D := A.d) ch4 (by show A.T A.me ≠ 0; rw [hb.tm]; omega)) fun _ _ h => h
    let h4 : HM := { h with g := swG h.g a b }
    have ok4 : HOk n h4 := hr.ok.sw a b
    have hs4 := swG_some hp hq
    have cx4 : CX F h4 := fun i r hr' => by
      obtain ⟨j, hj⟩ := swG_of hr'
      exact cx j r hj
    have ci4 : CI F h4.g (fun i => i = a ∨ i = b) := fun i r hr' hE => by
      have hr'' : swG h.g a b i = some r := hr'
      rw [hs4, fset_ne (fun e => hE (.inr e)), fset_ne (fun e => hE (.inl e))] at hr''
      exact ci i r hr'' fun h => h
    -- the two
    have r1 := Rd.newRow H4 [.int .i64 a, .int .i64 b]
    have s5 := Chg.newRow H4 [.int .i64 a, .int .i64 b]
    have n5 : (H4.newRow [.int .i64 a, .int .i64 b]).next = H4.next + 1 := rfl
    have nT : A.T H4.next = 0 := hb4.new _ (Nat.le_refl _)
    generalize eH5 : H4.newRow [.int .i64 a, .int .i64 b] = H5 at *
    have hb5 : HB A n H5 h4.g h4.M F := hb4.sm s5
    have ev15 : Evo A.d H H5 := ev14.then (Evo.of_sm (D := A.d) s5) fun _ _ h => h
    generalize hX : (colorM h a == 3) = X at *
    generalize hY : (colorM h b == 3) = Y at *
    have hne : binA .neq (.sc .bool) (.bool X) (.bool Y) = some (.bool (X != Y)) := by cases X <;> cases Y <;> rfl
    have hin : ∀ i, i ∈ [a, b] → ∃ r, h4.g i = some r := fun i hi => by
      show ∃ r, swG h.g a b i = some r
      rw [hs4]
      by_cases e : i = b
      · exact ⟨p, by rw [e, fset_same]⟩
      · have : i = a := by simpa [e] using hi
        exact ⟨q, by rw [fset_ne e, this, fset_same]⟩
    let sf : HM → Int → HM := fun h i => if (X != Y) = true then shadeM h (2 * i) else h
    have sfg : ∀ (l : List Int) (h : HM), (l.foldl sf h).g = h.g ∧ (l.foldl sf h).X = h.X := fun l => by
      induction l with
      | nil => exact fun h => ⟨rfl, rfl⟩
      | cons x l ih =>
        intro h
        obtain ⟨e1, e2⟩ := ih (sf h x)
        have : (sf h x).g = h.g ∧ (sf h x).X = h.X := by
          show (if _ then _ else _ : HM).g = _ ∧ (if _ then _ else _ : HM).X = _
          split
          · exact shadeM_g h _
          · exact ⟨rfl, rfl⟩
        exact ⟨by rw [List.foldl_cons, e1, this.1], by rw [List.foldl_cons, e2, this.2]⟩
    have sfok : ∀ (l : List Int) (h : HM), HOk n h → HOk n (l.foldl sf h) := fun l => by
      induction l with
      | nil => exact fun h ok => ok
      | cons x l ih =>
        intro h ok
        refine ih _ ?_
        show HOk n (if _ then _ else _)
        split
        · exact ok.shade _
        · exact ok
    have hdom : ∀ i, i ∈ [a, b] → 4 ≤ i ∧ i < 1024 := fun i hi => by
      obtain ⟨r, hr'⟩ := hin i hi
      exact ok4.dom i r hr'
    simp -implicitDefEqProofs only [eH5, eqA, eqD, go_sem]
    refine WP_mono (Q := fun ex fr H' => ex = .exit 0 ∧ (∃ F', HB A n H' h4.g ([a, b].foldl sf h4).M F' ∧ CX F' h4 ∧ CI F' h4.g fun _ => False) ∧ Evo A.d H H') ?_ (WP_loop (fun m fr H' => ∃ (k : Nat) (F' : Nat → Nat → AV), m = 2 - k ∧ k ≤ 2 ∧ fr.get 0 = some (.ptr (some (A.b, 0))) ∧ fr.get 7 = some (.bool X) ∧ fr.get 8 = some (.bool Y) ∧ fr.get 36 = some (.slice (some (H4.next, 0)) 1 2 true) ∧ fr.get 37 = some (.int .i64 2) ∧ fr.get 38 = some (.int .i64 k) ∧ HB A n H' h4.g (([a, b].take k).foldl sf h4).M F' ∧ CX F' h4 ∧ CI F' h4.g (fun i => i ∈ [a, b].drop k) ∧ Evo A.d H H' ∧ Rd H' H4.next 0 ([a, b].map iv)) 2 ?_ ?_)
    · rintro ex fr H' ⟨rfl, ⟨F', hb', cx', ci'⟩, ev'⟩
      have hfin : [a, b].foldl sf h4 = if (X != Y) = true then shadeM (shadeM h4 (2 * a)) (2 * b) else h4 := by
        show sf (sf h4 a) b = _
        show (if _ then _ else _ : HM) = _
        by_cases e : (X != Y) = true
        · rw [if_pos e, if_pos e]
          show shadeM (if _ then _ else _) _ = _
          rw [if_pos e]
        · rw [if_neg e, if_neg e]
          show (if _ then _ else _ : HM) = _
          rw [if_neg e]
      obtain ⟨e1, e2⟩ := sfg [a, b] h4
      simp -implicitDefEqProofs only [eqA, eqD, go_sem]
      refine ⟨?_, ev'⟩
      rw [← hfin]
      exact ⟨sfok _ _ ok4, F', by rw [e1]; exact hb', cx'.sh e1 e2, by rw [e1]; exact ci'⟩
    · refine ⟨0, F, rfl, by omega, ?_⟩
      simp -implicitDefEqProofs only [eqA, eqD, go_sem]
      refine ⟨hb5, cx4, fun i r hr' hE => ci4 i r hr' fun hh => hE ?_, ev15, r1⟩
      rcases hh with rfl | rfl <;> simp
    · rintro m fr H6 ⟨k, F', hm, hk, g0, g7, g8, g36, g37, g38, hb6, cx6, ci6, ev6, rd6⟩
      by_cases hlt : k < 2
      · have hlt' : (k : Int) < 2 := by omega
        have k0 : (0 : Int) ≤ k := by omega
        have hw := wrapS hlt (by omega)
        obtain ⟨i, hi⟩ : ∃ i, [a, b][k]? = some i := ⟨[a, b][k]'(by simpa using hlt), List.getElem?_eq_getElem (by simpa using hlt)⟩
        have him : i ∈ [a, b] := List.mem_of_getElem? hi
        obtain ⟨r, hr'⟩ := hin i him
        obtain ⟨d1, d2⟩ := hdom i him
        obtain ⟨iN, rfl⟩ := Int.eq_ofNat_of_zero_le (by omega : 0 ≤ i)
        have ld := rd6.one (j := k) (v := .int .i64 iN) (by rw [List.getElem?_map, hi]; rfl)
        rw [Nat.zero_add] at ld
        let hk' : HM := ([a, b].take k).foldl sf h4
        obtain ⟨ek1, ek2⟩ := sfg ([a, b].take k) h4
        have okk : HOk n hk' := sfok _ _ ok4
        have hbk : HB A n H6 hk'.g hk'.M F' := by rw [ek1]; exact hb6
        have cxk : CX F' hk' := cx6.sh ek1 ek2
        have hrk : hk'.g iN = some r := by rw [ek1]; exact hr'
        obtain ⟨s, c, rfl, hs, hc, hn, -⟩ := okk.place hrk
        have l10 := hb6.lds.1
        simp -implicitDefEqProofs only [g0, g7, g8, g36, g37, g38, hlt', k0, ld, l10, Nat.zero_add, eqA, eqD, go_sem]
        refine CW.mono (c_At hb6.tab iN) ?_
        rintro v H7 ⟨rfl, s7⟩
        rw [hr']
        obtain ⟨H8, q1, q2, q3, q4⟩ := store_new H7 [.int .i64 0, .int .i64 0] [.int .i64 s, .int .i64 c] rfl
        have l4 := q4.load (n := 2) rfl
        have s8 : Sm H6 H8 := s7.trans q3
        have hb8 := hbk.sm s8
        simp -implicitDefEqProofs only [g0, g7, g8, g36, g37, g38, pl, Option.getD_some, Option.isSome_some, q1, l4, eqA, eqD, go_sem]
        refine CW.mono (c_cell hb8 hs hc hn) ?_
        rintro v H9 ⟨⟨cl, rfl⟩, s9⟩
        have hb9 := hb8.sm s9
        simp -implicitDefEqProofs only [g0, g7, g8, g36, g37, g38, eqA, eqD, go_sem]
        refine CW.mono (c_Oop (by omega) (by omega)) ?_
        rintro v H' ⟨rfl, rfl⟩
        have hw4 := (wds_bd hs).1
        have e2i : ((2 * iN : Nat) : Int) = 2 * (iN : Int) := by omega
        obtain ⟨HA, eA, hbA, chA⟩ := hb9.word hs hc (j := 1) (by omega) (.int .u32 (2 * (iN : Int)))
        have hdrop : [a, b].drop k = (iN : Int) :: [a, b].drop (k + 1) := by
          obtain ⟨hh1, hh2⟩ := List.getElem?_eq_some_iff.1 hi
          rw [List.drop_eq_getElem_cons hh1, hh2]
        obtain ⟨cxA, ciA⟩ := id_cx okk cxk (E := fun i => i ∈ [a, b].drop k) (E' := fun i => i ∈ [a, b].drop (k + 1)) (by rw [ek1]; exact ci6) hrk fun j hj hne => by
          rw [hdrop] at hj
          rcases List.mem_cons.1 hj with e | e
          · exact absurd e hne
          · exact e
        rw [← e2i] at eA
        have w1 : (1 : Int) < ((wds s : Nat) : Int) := by omega
        have c1 : (1 : Int).toNat = 1 := rfl
        have evA : Evo A.d H HA := ((ev6.then (Evo.of_sm (D := A.d) (s8.trans s9)) fun _ _ h => h).then (Evo.of_ch (D := A.d) chA (d_w hb9 hs)) fun _ _ h => h)
        have rdA : Rd HA H4.next 0 ([a, b].map iv) := by
          have rd9 := (rd6.keep s8.1 (s8.gt rd6.1))
          have rd9 := rd9.keep s9.1 (s9.gt rd9.1)
          exact rd9.keep (by rw [chA.1]; exact Nat.le_refl _) (chA.2 _ fun e => by
            have := hb9.tw s hs
            rw [← e, nT] at this
            omega)
        have htake : ([a, b].take (k + 1)).foldl sf h4 = sf hk' iN := by
          rw [List.take_add_one, hi, Option.toList_some, List.foldl_append]; rfl
        by_cases hxy : (X != Y) = true
        · simp -implicitDefEqProofs only [g0, g7, g8, g36, g37, g38, w1, c1, eA, ↓hne, hxy, eqA, eqD, go_sem]
          refine CW.mono (c_Oop (by omega) (by omega)) ?_
          rintro v H' ⟨rfl, rfl⟩
          simp -implicitDefEqProofs only [g0, g7, g8, g36, g37, g38, eqA, eqD, go_sem]
          refine CW.mono (c_shadeB okk hbA (by omega)) ?_
          rintro v HB' ⟨hbB, evB⟩
          simp -implicitDefEqProofs only [g0, g7, g8, g36, g37, g38, hw, eqA, eqD, go_sem]
          have esf : sf hk' iN = shadeM hk' ((2 * iN : Nat) : Int) := by
            show (if _ then _ else _ : HM) = _
            rw [if_pos hxy, e2i]
          refine ⟨2 - (k + 1), by omega, k + 1, upd F' s (upd (F' s) (c * wds s + 1) (.int .u32 (2 * (iN : Int)))), rfl, by omega, rfl, ?_, ?_, ?_, evA.then evB fun _ _ h => h, rdA.keep evB.1 (evB.2 _ rdA.1 fun hd => hd nT)⟩
          · rw [htake, esf]
            rw [ek1] at hbB; exact hbB
          · exact cxA.sh ek1.symm ek2.symm
          · rw [ek1] at ciA; exact ciA
        · have hxy' : (X != Y) = false := by simpa using hxy
          simp -implicitDefEqProofs only [g0, g7, g8, g36, g37, g38, w1, c1, eA, ↓hne, hxy', hw, Bool.false_eq_true, eqA, eqD, go_sem]
          have esf : sf hk' iN = hk' := by
            show (if _ then _ else _ : HM) = _
            rw [if_neg hxy]
          refine ⟨2 - (k + 1), by omega, k + 1, upd F' s (upd (F' s) (c * wds s + 1) (.int .u32 (2 * (iN : Int)))), rfl, by omega, rfl, ?_, ?_, ?_, evA, rdA⟩
          · rw [htake, esf]
            rw [ek1] at hbA; exact hbA
          · exact cxA.sh ek1.symm ek2.symm
          · rw [ek1] at ciA; exact ciA
      · obtain rfl : k = 2 := by omega
        have e22 : ¬ ((2 : Nat) : Int) < 2 := by omega
        simp -implicitDefEqProofs only [g0, g7, g8, g36, g37, g38, e22, Int.lt_irrefl, Bool.false_eq_true, eqA, eqD, go_sem]
        refine ⟨⟨F', hb6, cx6, fun i r hr' _ => ci6 i r hr' (by simp)⟩, ev6⟩
  · have hand : ((h.g a).isSome && (h.g b).isSome) = false := by
      cases hx : (h.g a).isSome <;> cases hy : (h.g b).isSome <;> simp_all
    have hno : h.g a = none ∨ h.g b = none := by
      cases hx : h.g a with
      | none => exact .inl rfl
      | some p => cases hy : h.g b with
        | none => exact .inr rfl
        | some q => exact absurd ⟨by rw [hx]; rfl, by rw [hy]; rfl⟩ hab
    rw [swG_no hno] at hb3
    have hne : ¬ ((h.g a).isSome && (h.g b).isSome) = true := by rw [hand]; simp
    rw [if_neg hne]
    simp -implicitDefEqProofs only [hand, Bool.false_eq_true, eqA, eqD, go_sem]
    exact ⟨⟨hr.ok, F, hb3, cx, ci⟩, ev13⟩
end
end Go.Proofs.YtaihjlemofgokaaGreat.AA
