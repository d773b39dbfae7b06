/- What is reached is kept: the law of three colours; the walk. -/
import Derived.Test.YtaihjlemofgokaaGreatKHeaH
set_option linter.unusedSimpArgs false
set_option linter.unusedVariables false
namespace Go.Proofs.YtaihjlemofgokaaGreat.AA
open Go Go.RowKit
set_option maxRecDepth 100000
def OKw (h : HM) (w : Int) : Prop := ∀ j, idP w = some j → j < 4 ∨ (h.g j).isSome = true
def NE (h : HM) (w : Int) : Prop := ∀ j q, idP w = some j → h.g j = some q → q.2 ∉ h.M q.1.toNat 3
def RW (h : HM) (w : Int) : Prop := (0 ≤ w ∧ w < 4294967296) ∧ ∃ j, idP w = some j ∧ (h.g j).isSome = true
structure KI (h : HM) (pc : Option Pl) : Prop where
  shp : ∀ i p, h.g i = some p → (h.X p).1 = 2 ∧ (h.X p).2.length = 3
  tri : ∀ i p, h.g i = some p → some p ≠ pc → p.2 ∈ h.M p.1.toNat 1 → ∀ w, w ∈ (h.X p).2 → NE h w
  liv : ∀ i p, h.g i = some p → ∀ w, w ∈ (h.X p).2 → OKw h w
section
variable {n : Nat → Nat} {h h' : HM} {pc : Option Pl}
theorem NE.mono (ok : HOk n h) (hg : h'.g = h.g) (hM : ∀ s, s < 5 → ∀ x, x ∈ h'.M s 3 → x ∈ h.M s 3) {w : Int} (hn : NE h w) : NE h' w := by
  intro j q hj hq hm
  rw [hg] at hq
  obtain ⟨h1, h2, -⟩ := ok.at_ _ _ hq
  exact hn j q hj hq (hM _ (by omega) _ hm)
theorem OKw.mono (hg : h'.g = h.g) {w : Int} (hn : OKw h w) : OKw h' w := by unfold OKw; rw [hg]; exact hn
theorem RW.mono (hg : h'.g = h.g) {w : Int} (hn : RW h w) : RW h' w := by unfold RW; rw [hg]; exact hn
theorem KI.mono (ki : KI h pc) (ok : HOk n h) (hg : h'.g = h.g) (hX : h'.X = h.X) (h1 : ∀ s, s < 5 → ∀ x, x ∈ h'.M s 1 → x ∈ h.M s 1) (h3 : ∀ s, s < 5 → ∀ x, x ∈ h'.M s 3 → x ∈ h.M s 3) : KI h' pc := by
  refine ⟨fun i p hp => ?_, fun i p hp hne hb w hw => ?_, fun i p hp w hw => ?_⟩
  · rw [hg] at hp; rw [hX]; exact ki.shp i p hp
  · rw [hg] at hp; rw [hX] at hw
    obtain ⟨a, b, -⟩ := ok.at_ _ _ hp
    exact (ki.tri i p hp hne (h1 _ (by omega) _ hb) w hw).mono ok hg h3
  · rw [hg] at hp; rw [hX] at hw
    exact (ki.liv i p hp w hw).mono hg
theorem shade_rows (ok : HOk n h) (w : Int) : (shadeM h w).g = h.g ∧ (shadeM h w).X = h.X ∧ (∀ s, s < 5 → ∀ x, x ∈ (shadeM h w).M s 1 → x ∈ h.M s 1) ∧ (∀ s, s < 5 → ∀ x, x ∈ (shadeM h w).M s 3 → x ∈ h.M s 3) ∧ NE (shadeM h w) w := by
  obtain ⟨e1, e2⟩ := shadeM_g h w
  have key : ∀ s, s < 5 → ∀ c : Int, (∀ x, x ∈ shM (h.M s) c 1 → x ∈ h.M s 1) ∧ (∀ x, x ∈ shM (h.M s) c 3 → x ∈ h.M s 3 ∧ x ≠ c) := fun s hs c => by
    unfold shM
    by_cases hc : c ∈ h.M s 3
    · rw [if_pos hc]
      refine ⟨fun x hx => ?_, fun x hx => ?_⟩
      · rcases (mem_mv (ok.mill s hs) (by omega)).1 hx with a | ⟨a, -⟩
        · exact a.2
        · omega
      · rcases (mem_mv (ok.mill s hs) (by omega)).1 hx with a | ⟨a, -⟩
        · exact ⟨a.2, a.1⟩
        · omega
    · rw [if_neg hc]
      exact ⟨fun x hx => hx, fun x hx => ⟨hx, fun e => hc (e ▸ hx)⟩⟩
  refine ⟨e1, e2, ?_⟩
  cases hid : idP w with
  | none =>
    have e : shadeM h w = h := by unfold shadeM; rw [hid]
    rw [e]
    exact ⟨fun s _ x hx => hx, fun s _ x hx => hx, fun j q hj => by rw [hid] at hj; cases hj⟩
  | some i =>
    cases hi : h.g i with
    | none =>
      have e : shadeM h w = h := by unfold shadeM; rw [hid]; dsimp only; rw [hi]
      rw [e]
      exact ⟨fun s _ x hx => hx, fun s _ x hx => hx, fun j q hj hq => by
        rw [hid] at hj
        obtain rfl : i = j := Option.some.inj hj
        rw [hi] at hq; cases hq⟩
    | some p =>
      have e : shadeM h w = { h with M := upd h.M p.1.toNat (shM (h.M p.1.toNat) p.2) } := by unfold shadeM; rw [hid]; dsimp only; rw [hi]
      rw [e]
      obtain ⟨a, b, -⟩ := ok.at_ _ _ hi
      have hs : p.1.toNat < 5 := by omega
      obtain ⟨k1, k3⟩ := key p.1.toNat hs p.2
      refine ⟨fun s hs' x hx => ?_, fun s hs' x hx => ?_, fun j q hj hq hm => ?_⟩
      · change x ∈ upd h.M p.1.toNat _ s 1 at hx
        by_cases e : s = p.1.toNat
        · subst e; rw [upd_same] at hx; exact k1 x hx
        · rw [upd_ne e] at hx; exact hx
      · change x ∈ upd h.M p.1.toNat _ s 3 at hx
        by_cases e : s = p.1.toNat
        · subst e; rw [upd_same] at hx; exact (k3 x hx).1
        · rw [upd_ne e] at hx; exact hx
      · rw [hid] at hj
        obtain rfl : i = j := Option.some.inj hj
        change h.g i = some q at hq
        rw [hi] at hq
        obtain rfl : p = q := Option.some.inj hq
        change p.2 ∈ upd h.M p.1.toNat _ p.1.toNat 3 at hm
        rw [upd_same] at hm
        exact (k3 _ hm).2 rfl
theorem KI.shade (ki : KI h pc) (ok : HOk n h) (w : Int) : KI (shadeM h w) pc := by
  obtain ⟨a, b, c, d, -⟩ := shade_rows ok w
  exact ki.mono ok a b c d
theorem NE.shade (ok : HOk n h) (w : Int) {w' : Int} (hn : NE h w') : NE (shadeM h w) w' := by
  obtain ⟨a, b, c, d, -⟩ := shade_rows ok w
  exact hn.mono ok a d
theorem hold_rows : ∀ (l : List Int) {h : HM}, HOk n h → (l.foldl shadeM h).g = h.g ∧ (l.foldl shadeM h).X = h.X ∧ (∀ pc, KI h pc → KI (l.foldl shadeM h) pc) ∧ (∀ w, NE h w → NE (l.foldl shadeM h) w) ∧ ∀ w, w ∈ l → NE (l.foldl shadeM h) w
  | [], h, _ => ⟨rfl, rfl, fun _ k => k, fun _ k => k, fun w hw => by cases hw⟩
  | v :: l, h, ok => by
    obtain ⟨a, b, -, -, e⟩ := shade_rows ok v
    obtain ⟨q1, q2, q3, q4, q5⟩ := hold_rows l (ok.shade v)
    refine ⟨q1.trans a, q2.trans b, fun pc k => q3 pc (k.shade ok v), fun w k => q4 w (k.shade ok v), fun w hw => ?_⟩
    rcases List.mem_cons.1 hw with rfl | hw
    · exact q4 _ e
    · exact q5 w hw
theorem scan1_keep (ok : HOk n h) (ki : KI h none) {s : Nat} (hs : s < 5) (hg : h.M s 2 ≠ []) : KI (scan1 h s) none ∧ (scan1 h s).g = h.g ∧ ∀ w, NE h w → NE (scan1 h s) w := by
  obtain ⟨c, l, hcl⟩ : ∃ c l, h.M s 2 = c :: l := by
    cases hh : h.M s 2 with
    | nil => exact absurd hh hg
    | cons c l => exact ⟨c, l, rfl⟩
  have hcm : c ∈ h.M s 2 := by rw [hcl]; simp
  have esc : scM (h.M s) = (c, mv (h.M s) c 1) := by unfold scM; rw [hcl]
  have ok2 : HOk n { h with M := upd h.M s (mv (h.M s) c 1) } := ok.move hs (j := 2) (by omega) (by omega) hcm (by omega) (by omega)
  have e1s : scan1 h s = (h.X (s, c)).2.foldl shadeM { h with M := upd h.M s (mv (h.M s) c 1) } := by
    unfold scan1; rw [esc]
  have r1 : ∀ t, t < 5 → ∀ x, x ∈ upd h.M s (mv (h.M s) c 1) t 1 → x ∈ h.M t 1 ∨ (t = s ∧ x = c) := fun t ht x hx => by
    by_cases e : t = s
    · subst e
      rw [upd_same] at hx
      rcases (mem_mv (ok.mill t hs) (by omega)).1 hx with a | ⟨-, a⟩
      · exact .inl a.2
      · exact .inr ⟨rfl, a⟩
    · rw [upd_ne e] at hx; exact .inl hx
  have r3 : ∀ t, t < 5 → ∀ x, x ∈ upd h.M s (mv (h.M s) c 1) t 3 → x ∈ h.M t 3 := fun t ht x hx => by
    by_cases e : t = s
    · subst e
      rw [upd_same] at hx
      rcases (mem_mv (ok.mill t hs) (by omega)).1 hx with a | ⟨a, -⟩
      · exact a.2
      · omega
    · rw [upd_ne e] at hx; exact hx
  have k2 : KI { h with M := upd h.M s (mv (h.M s) c 1) } (some ((s : Int), c)) := by
    refine ⟨ki.shp, fun i p hp hne hb w hw => ?_, ki.liv⟩
    obtain ⟨a, b, -⟩ := ok.at_ _ _ hp
    rcases r1 _ (by omega) _ hb with hb | ⟨e1, e2⟩
    · exact NE.mono (h := h) (h' := { h with M := upd h.M s (mv (h.M s) c 1) }) ok rfl r3 (ki.tri i p hp (by simp) hb w hw)
    · exact absurd (congrArg some (Prod.ext (by show p.1 = s; omega) e2)) hne
  obtain ⟨q1, q2, q3, q4, q5⟩ := hold_rows (h.X (s, c)).2 ok2
  rw [e1s]
  have k3 := q3 _ k2
  refine ⟨⟨k3.shp, fun i p hp _ hb w hw => ?_, k3.liv⟩, q1, fun w hw => q4 w (NE.mono (h := h) (h' := { h with M := upd h.M s (mv (h.M s) c 1) }) ok rfl r3 hw)⟩
  by_cases e : some p = some ((s : Int), c)
  · rw [q2, Option.some.inj e] at hw
    exact q5 w hw
  · exact k3.tri i p hp e hb w hw
theorem scanN_keep : ∀ (k : Nat) {h : HM}, HOk n h → KI h none → ∀ (lim d : Int), KI (scanN k lim d h).2 none ∧ (scanN k lim d h).2.g = h.g ∧ ∀ w, NE h w → NE (scanN k lim d h).2 w
  | 0, h, _, ki, _, _ => ⟨ki, rfl, fun _ k => k⟩
  | k + 1, h, ok, ki, lim, d => by
    unfold scanN
    cases hg : greyM h with
    | none => exact ⟨ki, rfl, fun _ k => k⟩
    | some s =>
      obtain ⟨hs, hne, -⟩ := greyM_some hg
      dsimp only
      split
      · obtain ⟨a, b, c⟩ := scan1_keep ok ki hs hne
        obtain ⟨a', b', c'⟩ := scanN_keep k (ok.scan1 hs hne) a lim (d + wds s)
        exact ⟨a', b'.trans b, fun w hw => c' w (c w hw)⟩
      · exact ⟨ki, rfl, fun _ k => k⟩
theorem flip_keep (ok : HOk n h) (ki : KI h none) : KI (flipM h).2 none ∧ ∀ w, RW h w → NE h w → RW (flipM h).2 w := by
  unfold flipM
  cases hg : greyM h with
  | some s => exact ⟨ki, fun w hw _ => hw⟩
  | none =>
    have g2 := greyM_none hg
    have al : ∀ j q, h.g j = some q → q.2 ∉ h.M q.1.toNat 3 → (flipK h 5).g j = some q := fun j q hj hq => flipK_g.2 ⟨hj, fun hh => hq hh.2⟩
    have bl : ∀ i p, (flipK h 5).g i = some p → h.g i = some p ∧ p.2 ∈ h.M p.1.toNat 1 := fun i p hp => by
      obtain ⟨hp, hn⟩ := flipK_g.1 hp
      obtain ⟨a, b, k, k1, k2, k3⟩ := ok.at_ _ _ hp
      refine ⟨hp, ?_⟩
      have : k = 1 ∨ k = 2 ∨ k = 3 := by omega
      rcases this with rfl | rfl | rfl
      · exact k3
      · rw [g2 _ (by omega)] at k3; cases k3
      · exact absurd ⟨by omega, k3⟩ hn
    refine ⟨⟨fun i p hp => ki.shp i p (bl i p hp).1, fun i p hp _ hb => ?_, fun i p hp w hw j hj => ?_⟩, fun w ⟨hb, j, hj, hs⟩ hn => ⟨hb, j, hj, ?_⟩⟩
    · obtain ⟨a, b, -⟩ := ok.at_ _ _ (bl i p hp).1
      have e : (flipK h 5).M p.1.toNat 1 = [] := by
        show (if p.1.toNat < 5 then flM (h.M p.1.toNat) else h.M p.1.toNat) 1 = []
        rw [if_pos (by omega)]; rfl
      rw [e] at hb; cases hb
    · obtain ⟨hp', hbk⟩ := bl i p hp
      rcases ki.liv i p hp' w hw j hj with h4 | h4
      · exact .inl h4
      · obtain ⟨q, hq⟩ := Option.isSome_iff_exists.1 h4
        have := ki.tri i p hp' (by simp) hbk w hw j q hj hq
        exact .inr (by show ((flipK h 5).g j).isSome = true; rw [al j q hq this]; rfl)
    · obtain ⟨q, hq⟩ := Option.isSome_iff_exists.1 hs
      show ((flipK h 5).g j).isSome = true
      rw [al j q hq (hn j q hj hq)]; rfl
end
theorem idP_two {i : Int} (h : i ≠ 0) : idP (2 * i) = some i := by
  unfold idP
  rw [if_neg (by omega)]
  congr 1; omega
section
variable {n : Nat → Nat} {h : HM}
theorem put_keep (ok : HOk n h) (ki : KI h none) (i k : Int) {w : Int} (hw : OKw h w) : KI (putM h i k w).2 none ∧ (putM h i k w).2.g = h.g ∧ ∀ w', NE h w' → NE (putM h i k w).2 w' := by
  unfold putM
  cases hi : h.g i with
  | none => exact ⟨ki, rfl, fun _ q => q⟩
  | some p =>
    dsimp only
    by_cases hc : 0 ≤ k ∧ k < (h.X p).2.length ∧ w ≠ 0
    rotate_left
    · rw [if_neg hc]; exact ⟨ki, rfl, fun _ q => q⟩
    rw [if_pos hc]
    dsimp only
    obtain ⟨p0, p5, -⟩ := ok.at_ _ _ hi
    have hs : p.1.toNat < 5 := by omega
    generalize hX : fset h.X p ((h.X p).1, (h.X p).2.set k.toNat w) = X'
    have Xp : X' p = ((h.X p).1, (h.X p).2.set k.toNat w) := by rw [← hX, fset_same]
    have Xn : ∀ q, q ≠ p → X' q = h.X q := fun q e => by rw [← hX, fset_ne e]
    have ne1 : ∀ w', NE h w' → NE { h with X := X' } w' := fun w' q => q
    have liv1 : ∀ j q, h.g j = some q → ∀ v, v ∈ (X' q).2 → OKw { h with X := X' } v := fun j q hq v hv => by
      by_cases e : q = p
      · subst e
        rw [Xp] at hv
        rcases List.mem_or_eq_of_mem_set hv with hv | rfl
        · exact (ki.liv j q hq v hv).mono (h' := { h with X := X' }) rfl
        · exact OKw.mono (h' := { h with X := X' }) rfl hw
      · rw [Xn q e] at hv
        exact (ki.liv j q hq v hv).mono (h' := { h with X := X' }) rfl
    have shp1 : ∀ j q, h.g j = some q → (X' q).1 = 2 ∧ (X' q).2.length = 3 := fun j q hq => by
      by_cases e : q = p
      · subst e
        rw [Xp]
        have := ki.shp j q hq
        exact ⟨this.1, by dsimp only; rw [List.length_set]; exact this.2⟩
      · rw [Xn q e]; exact ki.shp j q hq
    have ki1 : KI { h with X := X' } (some p) := by
      refine ⟨shp1, fun j q hq hne hb v hv => ?_, liv1⟩
      have e : q ≠ p := fun e => hne (by rw [e])
      have hv' : v ∈ (X' q).2 := hv
      rw [Xn q e] at hv'
      exact ki.tri j q hq (by simp) hb v hv'
    have okX : HOk n { h with X := X' } → True := fun _ => trivial
    by_cases hb : colM (h.M p.1.toNat) p.2 = 1
    · rw [if_pos hb]
      have sh : (shadeM { h with X := X' } w).g = h.g ∧ (shadeM { h with X := X' } w).M = (shadeM h w).M ∧ (shadeM { h with X := X' } w).X = X' := by
        unfold shadeM
        cases idP w with
        | none => exact ⟨rfl, rfl, rfl⟩
        | some j =>
          dsimp only
          cases h.g j with
          | none => exact ⟨rfl, rfl, rfl⟩
          | some q => exact ⟨rfl, rfl, rfl⟩
      obtain ⟨s1, s2, s3⟩ := sh
      obtain ⟨r1, -, r3, r4, r5⟩ := shade_rows ok w
      have neT : ∀ v, NE (shadeM h w) v → NE (shadeM { h with X := X' } w) v := fun v q j r hj hr => by
        rw [s1] at hr; rw [s2]
        exact q j r hj (by rw [r1]; exact hr)
      have neO : ∀ v, NE h v → NE (shadeM { h with X := X' } w) v := fun v q => neT v (q.shade ok w)
      refine ⟨⟨fun j q hq => ?_, fun j q hq _ hbq v hv => ?_, fun j q hq v hv => ?_⟩, s1, neO⟩
      · rw [s1] at hq; rw [s3]; exact shp1 j q hq
      · rw [s1] at hq; rw [s3] at hv; rw [s2] at hbq
        obtain ⟨a, b, -⟩ := ok.at_ _ _ hq
        have hbq' := r3 _ (by omega) _ hbq
        by_cases e : q = p
        · subst e
          rw [Xp] at hv
          rcases List.mem_or_eq_of_mem_set hv with hv | rfl
          · exact neO v (ki.tri j q hq (by simp) hbq' v hv)
          · exact neT _ r5
        · rw [Xn q e] at hv
          exact neO v (ki.tri j q hq (by simp) hbq' v hv)
      · rw [s1] at hq; rw [s3] at hv
        exact (liv1 j q hq v hv).mono (h := { h with X := X' }) s1
    · rw [if_neg hb]
      refine ⟨⟨shp1, fun j q hq _ hbq v hv => ?_, liv1⟩, rfl, ne1⟩
      by_cases e : q = p
      · subst e
        exact absurd ((colM_eq (ok.mill _ hs) (k := 1) (by omega) hbq)) hb
      · exact ki1.tri j q hq (fun h => e (Option.some.inj h)) hbq v hv
theorem alloc_keep (ok : HOk n h) (ki : KI h none) : ((allocM h 2 3).1 = -1 ∧ (allocM h 2 3).2 = h) ∨
    (4 ≤ (allocM h 2 3).1 ∧ (allocM h 2 3).1 < 1024 ∧ KI (allocM h 2 3).2 none ∧ (∀ w, RW h w → RW (allocM h 2 3).2 w) ∧ (∀ w, OKw h w → OKw (allocM h 2 3).2 w) ∧ RW (allocM h 2 3).2 (2 * (allocM h 2 3).1)) := by
  have hz : szP 3 = 1 := by unfold szP; omega
  cases hm : h.M 1 0 with
  | nil =>
    left
    unfold allocM
    rw [if_neg (by rw [hz]; omega), hz]
    simp only [Int.toNat_one, hm]
    exact ⟨trivial, trivial⟩
  | cons c l =>
    right
    obtain ⟨id, hid, e⟩ := ok.alloc_at (c := 2) (f := 3) (by rw [hz]; omega) (by omega) (by omega) (by rw [hz]; exact hm)
    rw [e, hz]
    simp only [Int.toNat_one]
    have him : c ∈ h.M 1 0 := by rw [hm]; simp
    have mo := ok.mill 1 (by omega)
    generalize hg' : fset h.g id (some ((1 : Int), c)) = g'
    generalize hM' : upd h.M 1 (mv (h.M 1) c 1) = M'
    generalize hX' : fset h.X ((1 : Int), c) ((2 : Int), List.replicate (3 : Int).toNat (2 : Int)) = X'
    have gI : g' id = some ((1 : Int), c) := by rw [← hg', fset_same]
    have gN : ∀ j, j ≠ id → g' j = h.g j := fun j e => by rw [← hg', fset_ne e]
    have gO : ∀ j p, h.g j = some p → g' j = some p := fun j p hp => by
      rw [gN j (fun e => by rw [e, hid.2.2.1] at hp; cases hp)]; exact hp
    have hno : ∀ j, h.g j ≠ some ((1 : Int), c) := fun j hj => by
      obtain ⟨-, -, k, h1, h2, h3⟩ := ok.at_ _ _ hj
      have := mo.dis k 0 c h2 (by omega) (by simpa using h3) him
      omega
    have m3 : ∀ s, s < 5 → ∀ x, x ∈ M' s 3 → x ∈ h.M s 3 ∧ ((s : Int), x) ≠ ((1 : Int), c) := fun s hs x hx => by
      rw [← hM'] at hx
      by_cases e : s = 1
      · subst e
        rw [upd_same] at hx
        rcases (mem_mv mo (by omega)).1 hx with ⟨a, b⟩ | ⟨a, -⟩
        · exact ⟨b, fun e => a (congrArg Prod.snd e)⟩
        · omega
      · rw [upd_ne e] at hx
        exact ⟨hx, fun e' => e (by have := congrArg Prod.fst e'; simp at this; omega)⟩
    have m1 : ∀ s, s < 5 → ∀ x, x ∈ M' s 1 → x ∈ h.M s 1 ∨ ((s : Int), x) = ((1 : Int), c) := fun s hs x hx => by
      rw [← hM'] at hx
      by_cases e : s = 1
      · subst e
        rw [upd_same] at hx
        rcases (mem_mv mo (by omega)).1 hx with ⟨a, b⟩ | ⟨-, a⟩
        · exact .inl b
        · exact .inr (by rw [a]; rfl)
      · rw [upd_ne e] at hx
        exact .inl hx
    have XI : X' ((1 : Int), c) = ((2 : Int), [2, 2, 2]) := by rw [← hX', fset_same]; rfl
    have XN : ∀ q, q ≠ ((1 : Int), c) → X' q = h.X q := fun q e => by rw [← hX', fset_ne e]
    have okw : ∀ w, OKw h w → OKw ⟨g', M', X'⟩ w := fun w q j hj => by
      rcases q j hj with a | a
      · exact .inl a
      · obtain ⟨p, hp⟩ := Option.isSome_iff_exists.1 a
        exact .inr (by show (g' j).isSome = true; rw [gO j p hp]; rfl)
    have ok2 : OKw ⟨g', M', X'⟩ 2 := fun j hj => .inl (by
      have : idP 2 = some 1 := idP_two (i := 1) (by omega)
      rw [this] at hj; cases hj; omega)
    have ne2 : NE ⟨g', M', X'⟩ 2 := fun j q hj hq => by
      have : idP 2 = some 1 := idP_two (i := 1) (by omega)
      rw [this] at hj
      obtain rfl : (1 : Int) = j := Option.some.inj hj
      have hq' : g' 1 = some q := hq
      rw [gN 1 (by have := hid.1; omega)] at hq'
      have := ok.dom _ _ hq'
      omega
    have neO : ∀ w, OKw h w → NE h w → NE ⟨g', M', X'⟩ w := fun w ow q j r hj hr hm3 => by
      have hr' : g' j = some r := hr
      by_cases e : j = id
      · subst e
        rw [gI] at hr'
        obtain rfl := Option.some.inj hr'
        exact (m3 1 (by omega) c hm3).2 rfl
      · rw [gN j e] at hr'
        obtain ⟨a, b, -⟩ := ok.at_ _ _ hr'
        exact q j r hj hr' (m3 _ (by omega) _ hm3).1
    refine ⟨hid.1, hid.2.1, ⟨fun j q hq => ?_, fun j q hq _ hb v hv => ?_, fun j q hq v hv => ?_⟩, fun w ⟨hb, j, hj, hs⟩ => ⟨hb, j, hj, ?_⟩, okw, ⟨by have := hid.1; have := hid.2.1; omega, id, idP_two (by have := hid.1; omega), ?_⟩⟩
    · show (X' q).1 = 2 ∧ (X' q).2.length = 3
      by_cases e : q = ((1 : Int), c)
      · rw [e, XI]; exact ⟨rfl, rfl⟩
      · rw [XN q e]
        have hq' : g' j = some q := hq
        by_cases e2 : j = id
        · rw [e2, gI] at hq'; exact absurd (Option.some.inj hq').symm e
        · rw [gN j e2] at hq'; exact ki.shp j q hq'
    · have hv' : v ∈ (X' q).2 := hv
      have hq' : g' j = some q := hq
      by_cases e : q = ((1 : Int), c)
      · rw [e, XI] at hv'
        simp at hv'
        subst hv'
        exact ne2
      · rw [XN q e] at hv'
        have e2 : j ≠ id := fun e2 => by rw [e2, gI] at hq'; exact e (Option.some.inj hq').symm
        rw [gN j e2] at hq'
        obtain ⟨a, b, -⟩ := ok.at_ _ _ hq'
        rcases m1 _ (by omega) _ hb with hb | hb
        · exact neO v (ki.liv j q hq' v hv') (ki.tri j q hq' (by simp) hb v hv')
        · exact absurd (show q = ((1 : Int), c) from Prod.ext (by have := congrArg Prod.fst hb; simp only at this ⊢; omega) (show q.2 = c from (Prod.mk.inj hb).2)) e
    · have hv' : v ∈ (X' q).2 := hv
      have hq' : g' j = some q := hq
      by_cases e : q = ((1 : Int), c)
      · rw [e, XI] at hv'
        simp at hv'
        subst hv'
        exact ok2
      · rw [XN q e] at hv'
        have e2 : j ≠ id := fun e2 => by rw [e2, gI] at hq'; exact e (Option.some.inj hq').symm
        rw [gN j e2] at hq'
        exact okw v (ki.liv j q hq' v hv')
    · obtain ⟨p, hp⟩ := Option.isSome_iff_exists.1 hs
      show (g' j).isSome = true
      rw [gO j p hp]; rfl
    · show (g' id).isSome = true
      rw [gI]; rfl
theorem swG_at {g : TG} {a b j : Int} {p q r : Pl} (hp : g a = some p) (hq : g b = some q) (hr : swG g a b j = some r) : (j = a ∧ r = q) ∨ (j = b ∧ r = p) ∨ (j ≠ a ∧ j ≠ b ∧ g j = some r) := by
  rw [swG_some hp hq] at hr
  by_cases e : j = b
  · subst e; rw [fset_same] at hr; exact .inr (.inl ⟨rfl, (Option.some.inj hr).symm⟩)
  · rw [fset_ne e] at hr
    by_cases e2 : j = a
    · subst e2; rw [fset_same] at hr; exact .inl ⟨rfl, (Option.some.inj hr).symm⟩
    · rw [fset_ne e2] at hr; exact .inr (.inr ⟨e2, e, hr⟩)
theorem swG_isSome (g : TG) (a b j : Int) : (swG g a b j).isSome = (g j).isSome := by
  rcases swG_cases g a b with ⟨p, q, hp, hq⟩ | hn
  · rw [swG_some hp hq]
    by_cases e : j = b
    · subst e; rw [fset_same, hq]; rfl
    · rw [fset_ne e]
      by_cases e2 : j = a
      · subst e2; rw [fset_same, hp]; rfl
      · rw [fset_ne e2]
  · rw [swG_no hn]
theorem swap_keep (ok : HOk n h) (ki : KI h none) (a b : Int) : KI (swapM h a b).2 none ∧ (∀ w, RW h w → RW (swapM h a b).2 w) ∧ ∀ w, NE h w → NE (swapM h a b).2 w := by
  unfold swapM
  by_cases hc : ((h.g a).isSome && (h.g b).isSome) = true
  rotate_left
  · rw [if_neg hc]; exact ⟨ki, fun _ q => q, fun _ q => q⟩
  rw [if_pos hc]
  dsimp only
  rw [Bool.and_eq_true] at hc
  obtain ⟨p, hp⟩ := Option.isSome_iff_exists.1 hc.1
  obtain ⟨q, hq⟩ := Option.isSome_iff_exists.1 hc.2
  have ca : ∀ {i : Int} {r : Pl}, h.g i = some r → ((colorM h i == 3) = true ↔ r.2 ∈ h.M r.1.toNat 3) := fun {i r} hr => by
    obtain ⟨x, y, -⟩ := ok.at_ _ _ hr
    unfold colorM
    rw [hr]
    dsimp only
    rw [beq_iff_eq]
    exact col_iff (ok.mill _ (by omega)) (k := 3) (by omega)
  have a0 := (ok.dom _ _ hp).1
  have b0 := (ok.dom _ _ hq).1
  have oks := ok.sw a b
  have rw1 : ∀ {h' : HM}, h'.g = swG h.g a b → ∀ w, RW h w → RW h' w := fun {h'} e w ⟨hb, j, hj, hs⟩ => ⟨hb, j, hj, by rw [e, swG_isSome]; exact hs⟩
  have fin : ∀ {h' : HM}, h'.g = swG h.g a b → h'.X = h.X → (∀ s, s < 5 → ∀ x, x ∈ h'.M s 1 → x ∈ h.M s 1) → (∀ w, NE h w → NE h' w) → KI h' none ∧ (∀ w, RW h w → RW h' w) ∧ ∀ w, NE h w → NE h' w := fun {h'} e1 e2 e3 e4 => by
    refine ⟨⟨fun j r hr => ?_, fun j r hr _ hb v hv => ?_, fun j r hr v hv => ?_⟩, rw1 e1, e4⟩
    · rw [e1] at hr; rw [e2]
      obtain ⟨j', hj'⟩ := swG_of hr
      exact ki.shp j' r hj'
    · rw [e1] at hr; rw [e2] at hv
      obtain ⟨j', hj'⟩ := swG_of hr
      obtain ⟨x, y, -⟩ := ok.at_ _ _ hj'
      exact e4 v (ki.tri j' r hj' (by simp) (e3 _ (by omega) _ hb) v hv)
    · rw [e1] at hr; rw [e2] at hv
      obtain ⟨j', hj'⟩ := swG_of hr
      intro k hk
      rcases ki.liv j' r hj' v hv k hk with x | x
      · exact .inl x
      · exact .inr (by rw [e1, swG_isSome]; exact x)
  by_cases hd : ((colorM h a == 3) != (colorM h b == 3)) = true
  · rw [if_pos hd]
    obtain ⟨x1, x2, x3, x4, x5⟩ := shade_rows oks (2 * a)
    obtain ⟨y1, y2, y3, y4, y5⟩ := shade_rows (oks.shade (2 * a)) (2 * b)
    refine fin (y1.trans x1) (y2.trans x2) (fun s hs x hx => x3 s hs x (y3 s hs x hx)) fun w hw j r hj hr => ?_
    have hr' : swG h.g a b j = some r := by rw [← hr, y1, x1]
    have n1 := x5.shade (oks.shade (2 * a)) (2 * b)
    rcases swG_at hp hq hr' with ⟨rfl, -⟩ | ⟨rfl, -⟩ | ⟨-, -, h3⟩
    · exact n1 j r (idP_two (by omega)) hr
    · exact y5 j r (idP_two (by omega)) hr
    · obtain ⟨u, v, -⟩ := ok.at_ _ _ h3
      intro hm
      exact hw j r hj h3 (x4 _ (by omega) _ (y4 _ (by omega) _ hm))
  · rw [if_neg hd]
    have hd' : (p.2 ∈ h.M p.1.toNat 3) ↔ (q.2 ∈ h.M q.1.toNat 3) := by
      rw [← ca hp, ← ca hq]
      revert hd
      cases (colorM h a == 3) <;> cases (colorM h b == 3) <;> simp
    refine fin rfl rfl (fun s hs x hx => hx) fun w hw j r hj hr => ?_
    rcases swG_at hp hq hr with ⟨rfl, rfl⟩ | ⟨rfl, rfl⟩ | ⟨-, -, h3⟩
    · intro hm
      exact hw j p hj hp (hd'.2 hm)
    · intro hm
      exact hw j q hj hq (hd'.1 hm)
    · exact hw j r hj h3
end
attribute [local go_sem ↓] WP_seq WP_skip WP_region WP_dregion WP_cond WP_block WP_exit WP_ret OW_nil OW_cons DW_nil DW_cons XW_call reduceIte OW_guard DW_guard
attribute [local go_sem] XW exA KO_eq OptK_some EvK_some GW2_true GW2_false KS_normal KS_ret KS_exit KB_normal KB_ret KB_exit CP2_bool RP_ret RP_normal putA_some putA_none ev_t ev_c evs evo wantA initA resA Tr.get_set vl chkOk cond_true cond_false Nat.add_zero Nat.mul_one Nat.one_mul Nat.zero_add Nat.zero_mul aggOf pInt binA unA intA beq_true beq_false Bool.not_true Bool.not_false Bool.not_eq_true and_self and_true true_and reduceIte Nat.reduceEqDiff Nat.succ_ne_self Nat.reduceAdd Nat.reduceMul Nat.reduceSub Nat.reduceBEq Nat.reduceLT Nat.reduceLeDiff Int.cast_ofNat_Int Int.reduceToNat Int.reduceLT Int.reduceLE Int.reduceGE Int.reduceGT Int.reduceEq Int.reduceNe Int.reduceAdd Int.reduceSub Int.reduceNeg decide_true decide_false Int.toNat_natCast reduceCtorEq List.nil_append List.cons_append AV.boxy AV.cells List.length_cons List.length_nil Nat.beq_refl AOp.cl KDW_0 KDW_1 KDW_2 OWskip_eq DWskip_eq fillA setAt DChk DAt stepA ble_dec beq_dec Bool.and_self Bool.and_true Bool.true_and Bool.and_false Bool.false_and List.take_succ_cons List.take_zero List.drop_succ_cons List.drop_zero List.take_nil List.drop_nil List.append_nil eqAV eqAVL BEq.rfl sameS Option.map Option.isNone wrap64 gt_iff_lt ge_iff_le Int.lt_irrefl Int.le_refl
set_option maxHeartbeats 4000000
attribute [local irreducible] Tr.set
theorem CW.and {M : Mach} {f : Nat} {l : List AV} {H : AHeap} {Q1 Q2 : AV → AHeap → Prop} (h1 : CW M f l H Q1) (h2 : CW M f l H Q2) : CW M f l H fun v H' => Q1 v H' ∧ Q2 v H' := by
  obtain ⟨v, H1, ⟨n1, r1⟩, q1⟩ := h1
  obtain ⟨w, H2, ⟨n2, r2⟩, q2⟩ := h2
  have e1 := r1 (max n1 n2) (Nat.le_max_left ..)
  have e2 := r2 (max n1 n2) (Nat.le_max_right ..)
  rw [e1] at e2
  obtain ⟨rfl, rfl⟩ := Prod.mk.inj (Option.some.inj e2)
  exact ⟨v, H1, ⟨n1, r1⟩, q1, q2⟩
def tg (R : RA) (B : Nat → Bool) : RA := ⟨R.b, R.ml, R.mp, fun x => if B x = true then 50 else R.T x, R.lo⟩
section
variable {A : PA} {R : RA} {B B' : Nat → Bool} {n : Nat → Nat} {H0 H H' : AHeap} {h k k' : HM} {g : TG} {M : Nat → Ml} {c : Pl → Option (Int × AV)}
theorem tg_T (x : Nat) : (tg R B).T x = if B x = true then 50 else R.T x := rfl
theorem tg_0 {x : Nat} (h : (tg R B).T x = 0) : B x = false ∧ R.T x = 0 := by
  rw [tg_T] at h
  split at h
  · omega
  · rename_i e; exact ⟨by simpa using e, h⟩
theorem RB.reT (h : RB R H g M c) (hl : H.next ≤ H'.next) (hg : ∀ x, x < H.next → R.T x ≠ 50 → H'.get x = H.get x) {T' : Nat → Nat} (z : ∀ x, x < H.next → R.T x = 0 → T' x = 0) (nz : ∀ x, R.T x ≠ 0 → R.T x ≠ 50 → T' x = R.T x) (nw : ∀ x, H'.next ≤ x → T' x = 0) (lw : ∀ x, T' x ≠ 0 → R.lo ≤ x) : RB ⟨R.b, R.ml, R.mp, T', R.lo⟩ H' g M c := by
  have hs : RB R H' g M c := h.gen (k := 50) hl (by omega) hg (.inl ⟨by omega, rfl⟩) (fun s _ => .inl ⟨by omega, rfl⟩) (.inl ⟨by omega, rfl⟩)
  refine ⟨hs.tbl, fun t ht => ?_, hs.map, ?_, ?_, fun t ht => ?_, nw, lw⟩
  · obtain ⟨f, hf, hk⟩ := h.mil t ht
    refine ⟨f, hf.keep' hl (hg _ hf.1 (by rw [h.tl t ht]; omega)), fun j hj => ?_⟩
    rcases hk j hj with q | ⟨x, o, cl, e1, q1, q2, q3⟩
    · exact .inl q
    · exact .inr ⟨x, o, cl, e1, q1, z x q3.1 q2, q3.keep hl (hg x q3.1 (by rw [q2]; omega))⟩
  · show T' R.b = 1
    rw [nz _ (by rw [h.tb_]; omega) (by rw [h.tb_]; omega)]; exact h.tb_
  · show T' R.mp = 2
    rw [nz _ (by rw [h.tm]; omega) (by rw [h.tm]; omega)]; exact h.tm
  · show T' (R.ml t) = 10 + t
    rw [nz _ (by rw [h.tl t ht]; omega) (by rw [h.tl t ht]; omega)]; exact h.tl t ht
theorem RR.reT (h : RR R n H k) (hl : H.next ≤ H'.next) (hg : ∀ x, x < H.next → R.T x ≠ 50 → H'.get x = H.get x) {T' : Nat → Nat} (z : ∀ x, x < H.next → R.T x = 0 → T' x = 0) (nz : ∀ x, R.T x ≠ 0 → R.T x ≠ 50 → T' x = R.T x) (nw : ∀ x, H'.next ≤ x → T' x = 0) (lw : ∀ x, T' x ≠ 0 → R.lo ≤ x) : RR ⟨R.b, R.ml, R.mp, T', R.lo⟩ n H' k := by
  obtain ⟨c, hb, hx⟩ := h.rb
  refine ⟨h.ok, c, hb.reT hl hg z nz nw lw, fun i p hp => ?_⟩
  obtain ⟨v, e, hv⟩ := hx i p hp
  refine ⟨v, e, ?_⟩
  rcases hv with q | ⟨x, o, cl, e1, q1, q2, q3⟩
  · exact .inl q
  · exact .inr ⟨x, o, cl, e1, q1, z x q3.1 q2, q3.keep hl (hg x q3.1 (by rw [q2]; omega))⟩
theorem RR.lo_ (h : RR R n H k) : R.lo ≤ H.next := by
  obtain ⟨c, hb, -⟩ := h.rb
  exact hb.lo_
theorem RR.new (h : RR R n H k) : ∀ x, H.next ≤ x → R.T x = 0 := by
  obtain ⟨c, hb, -⟩ := h.rb
  exact hb.new
theorem RR.low (h : RR R n H k) : ∀ x, R.T x ≠ 0 → R.lo ≤ x := by
  obtain ⟨c, hb, -⟩ := h.rb
  exact hb.low
theorem RR.untag (h : RR (tg R B) n H k) (hB : ∀ x, B x = true → R.T x = 0) : RR R n H k := by
  refine h.reT (Nat.le_refl _) (fun _ _ _ => rfl) (T' := R.T) (fun x _ q => (tg_0 q).2) (fun x q1 q2 => ?_) (fun x q => (tg_0 (h.new x q)).2) fun x q => ?_
  · rw [tg_T] at q2 ⊢
    split
    · rename_i e; rw [if_pos e] at q2; exact absurd rfl q2
    · rfl
  · refine h.low x ?_
    rw [tg_T]
    split
    · omega
    · exact q
structure JB (A : PA) (R : RA) (B : Nat → Bool) (n : Nat → Nat) (H0 H : AHeap) (h k : HM) : Prop where
  j : JJ A (tg R B) n H0 H h k
  b : ∀ x, B x = true → R.T x = 0
theorem JB.un (j : JB A R B n H0 H h k) : RR R n H k := j.j.r.untag j.b
theorem JB.bA (j : JB A R B n H0 H h k) {x : Nat} (hx : B x = true) : A.T x = 0 := by
  refine j.j.ar x (j.j.r.low x ?_)
  rw [tg_T, if_pos hx]; omega
theorem JB.lt (j : JB A R B n H0 H h k) {x : Nat} (hx : B x = true) : x < H.next := by
  apply Classical.byContradiction
  intro hc
  have := (tg_0 (j.j.r.new x (by omega))).1
  rw [this] at hx; cases hx
theorem JB.grow (j : JB A R B n H0 H h k) (hl : H.next ≤ H'.next) (hg : ∀ y, y < H.next → B y = false → H'.get y = H.get y) (b1 : ∀ x, x < H.next → B' x = B x) (b2 : ∀ x, B' x = true → x < H'.next) : JB A R B' n H0 H' h k := by
  have hlo := j.j.r.lo_
  have hnew := j.j.r.new
  have hlow := j.j.r.low
  have bl : ∀ x, B' x = true → R.lo ≤ x ∧ H0.next ≤ x := fun x hx => by
    by_cases hlt : x < H.next
    · rw [b1 x hlt] at hx
      have : (tg R B).T x = 50 := by rw [tg_T, if_pos hx]
      refine ⟨hlow x (by rw [this]; omega), ?_⟩
      apply Classical.byContradiction
      intro hc
      have := j.j.r0 x (by omega)
      omega
    · have hlo' : R.lo ≤ H.next := hlo
      have := j.j.s.1
      exact ⟨by omega, by omega⟩
  have b0 : ∀ x, B' x = true → R.T x = 0 := fun x hx => by
    by_cases hlt : x < H.next
    · rw [b1 x hlt] at hx; exact j.b x hx
    · exact (tg_0 (hnew x (by omega))).2
  have ev : Evo (tg R B).d H H' := ⟨hl, fun x hx' hx => hg x hx' (by
    cases e : B x with
    | false => rfl
    | true => exact absurd (by rw [RA.d, tg_T, if_pos e]; omega) hx)⟩
  have g0 : ∀ x, x < H.next → (tg R B).T x ≠ 50 → H'.get x = H.get x := fun x hx' hx => hg x hx' (by
    cases e : B x with
    | false => rfl
    | true => rw [tg_T, if_pos e] at hx; exact absurd rfl hx)
  refine ⟨⟨j.j.a.evoR j.j.ra ev, j.j.r.reT hl g0 (T' := (tg R B').T) (fun x hx q => ?_) (fun x q1 q2 => ?_) (fun x hx => ?_) (fun x hx => ?_), j.j.ar, fun x hx => ?_, Sm.of (Nat.le_trans j.j.s.1 hl) fun x hx => by rw [ev.2 x (Nat.lt_of_lt_of_le hx j.j.s.1) (fun hd => hd (j.j.r0 x hx)), j.j.s.gt hx], j.j.a0, fun x hx => ?_⟩, b0⟩
  · rw [tg_T] at q ⊢
    rw [b1 x hx]; exact q
  · have hlt : x < H.next := by
      apply Classical.byContradiction
      intro hc
      exact q1 (hnew x (by omega))
    rw [tg_T, tg_T, b1 x hlt]
  · rw [tg_T, if_neg (fun e => by have := b2 x e; omega)]
    exact (tg_0 (hnew x (by omega))).2
  · show R.lo ≤ x
    by_cases e : B' x = true
    · exact (bl x e).1
    · rw [tg_T, if_neg e] at hx
      refine hlow x ?_
      rw [tg_T]
      split
      · omega
      · exact hx
  · have q := tg_0 (j.j.ra x hx)
    rw [tg_T, if_neg (fun e => ?_)]
    · exact q.2
    · exact hx (j.j.ar x (bl x e).1)
  · rw [tg_T, if_neg (fun e => by have := (bl x e).2; omega)]
    exact (tg_0 (j.j.r0 x hx)).2
def KK (A : PA) (R : RA) (H H' : AHeap) : Prop := H.next ≤ H'.next ∧ ∀ x, x < H.next → A.T x = 0 → R.T x = 0 → H'.get x = H.get x
theorem JB.sm (j : JB A R B n H0 H h k) (s : Sm H H') : JB A R B n H0 H' h k ∧ KK A R H H' := ⟨⟨j.j.sm s, j.b⟩, s.1, fun x hx _ _ => s.gt hx⟩
theorem JB.pa {h' : HM} (j : JB A R B n H0 H h k) (hr : HR A n H' h') (ev : Evo A.d H H') : JB A R B n H0 H' h' k ∧ KK A R H H' :=
  ⟨⟨j.j.pa hr ev, j.b⟩, ev.1, fun x hx hA _ => ev.2 x hx fun hd => hd hA⟩
theorem JB.ref (j : JB A R B n H0 H h k) {f : Nat} {l : List AV} {P : AV → Prop} (c1 : CW MN f l H fun v H' => P v ∧ RR (tg R B) n H' k' ∧ Evo (tg R B).d H H') (c2 : CW MN f l H fun v H' => P v ∧ RR R n H' k' ∧ Evo R.d H H') : CW MN f l H fun v H' => P v ∧ JB A R B n H0 H' h k' ∧ KK A R H H' := by
  refine CW.mono (c1.and c2) ?_
  rintro v H' ⟨⟨p, r, ev⟩, -, -, ev2⟩
  exact ⟨p, ⟨j.j.rr r ev, j.b⟩, ev2.1, fun x hx _ hR => ev2.2 x hx fun hd => hd hR⟩
theorem c_rHold2 (j : JB A R B n H0 H h k) {v : AV} {l : List Int} (hl : RowX R H v l) : CW MN 20 [.ptr (some (R.b, 0)), v] H fun _ H' => JB A R B n H0 H' h (holdM k l) ∧ KK A R H H' := by
  have key : CW MN 20 [.ptr (some (R.b, 0)), v] H fun _ H' => RR (tg R B) n H' (holdM k l) ∧ Evo (tg R B).d H H' := by
    refine CW_of (fn := af20) rfl ?_
    dsimp only [af20, qm, q, qG, qn, qi, qb, qB, qk, qc, qo, qg, qv, qr]
    have hl0 := hl
    obtain ⟨a, s0, cl, rfl, hm, hu, -⟩ := hl
    simp -implicitDefEqProofs only [eqA, eqD, go_sem]
    refine WP_mono (Q := fun ex fr H' => ex = .exit 0 ∧ RR (tg R B) n H' (holdM k l) ∧ Evo (tg R B).d H H') ?_ (WP_loop (fun m fr H' => ∃ j : Nat, m = l.length - j ∧ j ≤ l.length ∧ fr.get 0 = some (.ptr (some (R.b, 0))) ∧ fr.get 6 = some (.slice a s0 l.length cl) ∧ fr.get 7 = some (.int .i64 l.length) ∧ fr.get 8 = some (.int .i64 j) ∧ RR (tg R B) n H' (holdM k (l.take j)) ∧ Evo (tg R B).d H H' ∧ Evo R.d H H') l.length ?_ ?_)
    · rintro ex fr H' ⟨rfl, h1⟩
      simp -implicitDefEqProofs only [eqA, eqD, go_sem]
      exact h1
    · refine ⟨0, rfl, by omega, ?_⟩
      simp -implicitDefEqProofs only [eqA, eqD, go_sem]
      exact ⟨j.j.r, Evo.refl _ _, Evo.refl _ _⟩
    · rintro m fr H1 ⟨i, hm', hj, g0, g6, g7, g8, hr1, ev1, ev2⟩
      have j0 : (0 : Int) ≤ i := by omega
      by_cases hlt : i < l.length
      · have hlt' : (i : Int) < (l.length : Int) := by omega
        have hw := wrapS hlt hm
        obtain ⟨x, o, rfl, ld⟩ := (hl0.keep ev2).at hlt
        have hub := hu _ (List.getElem_mem hlt)
        obtain ⟨w, hwe⟩ := Int.eq_ofNat_of_zero_le hub.1
        rw [hwe] at ld
        have hu2 : w < 4294967296 := by have := hub.2; omega
        simp -implicitDefEqProofs only [g0, g6, g7, g8, hlt', j0, ld, eqA, eqD, go_sem]
        refine CW.mono (CW.and (c_rShadeH (R := tg R B) hr1 hu2) (c_rShadeH (R := R) (hr1.untag j.b) hu2)) ?_
        rintro v H2 ⟨⟨hr2, e1⟩, -, e2⟩
        have e : holdM k (l.take (i + 1)) = shadeM (holdM k (l.take i)) w := by
          unfold holdM
          rw [List.take_add_one, List.getElem?_eq_getElem hlt, hwe, Option.toList_some, List.foldl_append]; rfl
        simp -implicitDefEqProofs only [g0, g6, g7, g8, hw, eqA, eqD, go_sem]
        exact ⟨l.length - (i + 1), by omega, i + 1, rfl, by omega, rfl, by rw [e]; exact hr2, ev1.then e1 fun _ _ h => h, ev2.then e2 fun _ _ h => h⟩
      · obtain rfl : i = l.length := by omega
        rw [List.take_length] at hr1
        simp -implicitDefEqProofs only [g0, g6, g7, g8, Int.lt_irrefl, Bool.false_eq_true, eqA, eqD, go_sem]
        exact ⟨hr1, ev1⟩
  refine CW.mono (key.and (c_rHold j.un hl)) ?_
  rintro u H' ⟨⟨r, ev⟩, -, ev2⟩
  exact ⟨⟨j.j.rr r ev, j.b⟩, ev2.1, fun x hx _ hR => ev2.2 x hx fun hd => hd hR⟩
end
attribute [local go_sem ↓] exA_lookup stepA_lookup exA_mapEnt exA_entSt exA_delete exA_mapUpd WP_seq WP_skip WP_region WP_dregion WP_cond WP_block WP_exit WP_ret OW_nil OW_cons DW_nil DW_cons XW_call reduceIte OW_guard DW_guard
attribute [local go_sem] LkA_some EvA_some entL_some updM_some at0 at1 at2 XW exA KO_eq OptK_some EvK_some GW2_true GW2_false KS_normal KS_ret KS_exit KB_normal KB_ret KB_exit CP2_bool RP_ret RP_normal putA_some putA_none ev_t ev_c evs evo wantA initA resA Tr.get_set vl chkOk cond_true cond_false Nat.add_zero Nat.mul_one Nat.one_mul Nat.zero_add Nat.zero_mul aggOf pInt binA unA intA beq_true beq_false Bool.not_true Bool.not_false Bool.not_eq_true and_self and_true true_and reduceIte Nat.reduceEqDiff Nat.succ_ne_self Nat.reduceAdd Nat.reduceMul Nat.reduceSub Nat.reduceBEq Nat.reduceLT Nat.reduceLeDiff Int.cast_ofNat_Int Int.reduceToNat Int.reduceLT Int.reduceLE Int.reduceGE Int.reduceGT Int.reduceEq Int.reduceNe Int.reduceAdd Int.reduceSub Int.reduceNeg decide_true decide_false Int.toNat_natCast reduceCtorEq List.nil_append List.cons_append AV.boxy AV.cells List.length_cons List.length_nil Nat.beq_refl AOp.cl KDW_0 KDW_1 KDW_2 OWskip_eq DWskip_eq fillA setAt DChk DAt stepA ble_dec beq_dec Bool.and_self Bool.and_true Bool.true_and Bool.and_false Bool.false_and List.take_succ_cons List.take_zero List.drop_succ_cons List.drop_zero List.take_nil List.drop_nil List.append_nil eqAV eqAVL BEq.rfl sameS Option.map Option.isNone wrap64 gt_iff_lt ge_iff_le Int.lt_irrefl Int.le_refl
set_option maxHeartbeats 4000000
def wiP (n lo hi : Int) : Int := if lo ≤ n ∧ n ≤ hi then n else if n.tmod (hi - lo + 1) < 0 then lo + (n.tmod (hi - lo + 1) + hi - lo + 1) else lo + n.tmod (hi - lo + 1)
theorem wiP_bd {n lo hi : Int} (h1 : lo ≤ hi) : lo ≤ wiP n lo hi ∧ wiP n lo hi ≤ hi := by
  have b1 : n.tmod (hi - lo + 1) < hi - lo + 1 := Int.tmod_lt_of_pos n (by omega)
  have b2 : -(hi - lo + 1) < n.tmod (hi - lo + 1) := by
    have := Int.tmod_lt_of_pos (-n) (b := hi - lo + 1) (by omega)
    rw [Int.neg_tmod] at this
    omega
  unfold wiP
  split
  · assumption
  · split
    · omega
    · omega
theorem c_withinF (n lo hi : Int) (H : AHeap) (h0 : -1 ≤ lo) (h1 : lo ≤ hi) (h2 : hi ≤ 1099511627776) : CW MN 8 [.int .i64 n, .int .i64 lo, .int .i64 hi] H fun v H' => v = .int .i64 (wiP n lo hi) ∧ H' = H := by
  refine CW_of (fn := af8) rfl ?_
  dsimp only [af8, qm, q, qG, qn, qi, qb, qB, qk, qc, qo, qg, qv, qr]
  have w1 : IntKind.i64.wrap (hi - lo) = hi - lo := wrap64 (by omega) (by omega)
  have w2 : IntKind.i64.wrap (hi - lo + 1) = hi - lo + 1 := wrap64 (by omega) (by omega)
  have hd : ¬ hi - lo + 1 = 0 := by omega
  have b1 : n.tmod (hi - lo + 1) < hi - lo + 1 := Int.tmod_lt_of_pos n (by omega)
  have b2 : -(hi - lo + 1) < n.tmod (hi - lo + 1) := by
    have := Int.tmod_lt_of_pos (-n) (b := hi - lo + 1) (by omega)
    rw [Int.neg_tmod] at this
    omega
  have w3 : IntKind.i64.wrap (n.tmod (hi - lo + 1) + hi) = n.tmod (hi - lo + 1) + hi := wrap64 (by omega) (by omega)
  have w4 : IntKind.i64.wrap (n.tmod (hi - lo + 1) + hi - lo) = n.tmod (hi - lo + 1) + hi - lo := wrap64 (by omega) (by omega)
  have w5 : IntKind.i64.wrap (n.tmod (hi - lo + 1) + hi - lo + 1) = n.tmod (hi - lo + 1) + hi - lo + 1 := wrap64 (by omega) (by omega)
  have f1 : (lo ≤ n ∧ n ≤ hi) → wiP n lo hi = n := fun h => by unfold wiP; rw [if_pos h]
  have f2 : ¬ (lo ≤ n ∧ n ≤ hi) → n.tmod (hi - lo + 1) < 0 → wiP n lo hi = lo + (n.tmod (hi - lo + 1) + hi - lo + 1) := fun h h' => by unfold wiP; rw [if_neg h, if_pos h']
  have f3 : ¬ (lo ≤ n ∧ n ≤ hi) → ¬ n.tmod (hi - lo + 1) < 0 → wiP n lo hi = lo + n.tmod (hi - lo + 1) := fun h h' => by unfold wiP; rw [if_neg h, if_neg h']
  have w6 : IntKind.i64.wrap (lo + (n.tmod (hi - lo + 1) + hi - lo + 1)) = lo + (n.tmod (hi - lo + 1) + hi - lo + 1) := wrap64 (by omega) (by omega)
  have w7 : IntKind.i64.wrap (lo + n.tmod (hi - lo + 1)) = lo + n.tmod (hi - lo + 1) := wrap64 (by omega) (by omega)
  by_cases c1 : lo ≤ n
  · by_cases c2 : n ≤ hi
    · rw [f1 ⟨c1, c2⟩]
      simp -implicitDefEqProofs only [c1, c2, Bool.false_eq_true, go_sem]
    · by_cases c3 : n.tmod (hi - lo + 1) < 0
      · rw [f2 (by omega) c3]
        simp -implicitDefEqProofs only [c1, c2, c3, w1, w2, w3, w4, w5, w6, hd, Bool.false_eq_true, go_sem]
      · rw [f3 (by omega) c3]
        simp -implicitDefEqProofs only [c1, c2, c3, w1, w2, w7, hd, Bool.false_eq_true, go_sem]
  · by_cases c3 : n.tmod (hi - lo + 1) < 0
    · rw [f2 (by omega) c3]
      simp -implicitDefEqProofs only [c1, c3, w1, w2, w3, w4, w5, w6, hd, Bool.false_eq_true, go_sem]
    · rw [f3 (by omega) c3]
      simp -implicitDefEqProofs only [c1, c3, w1, w2, w7, hd, Bool.false_eq_true, go_sem]
section
variable {A : PA} {n : Nat → Nat} {H : AHeap} {h : HM}
theorem c_lives (ki : KI h none) : ∀ (d : Nat) {H : AHeap} {w : Nat}, HR A n H h → d ≤ 6 → w < 4294967296 → OKw h (w : Int) → CW MN 25 [.ptr (some (A.b, 0)), .int .u32 (w : Int), .int .i64 (d : Int)] H fun v H' => v = .bool true ∧ HR A n H' h ∧ Evo A.d H H' := by
  intro d
  induction d with
  | zero =>
    intro H w hr hd hw ow
    have z0 : ((0 : Nat) : Int) = 0 := rfl
    rw [z0]
    refine CW_of (fn := af25) rfl ?_
    dsimp only [af25, qm, q, qG, qn, qi, qb, qB, qk, qc, qo, qg, qv, qr]
    simp -implicitDefEqProofs only [eqA, eqD, go_sem]
    refine CW.mono (c_rID hw) ?_
    rintro v H1 ⟨rfl, rfl⟩
    cases hid : idP (w : Int) with
    | none =>
      simp -implicitDefEqProofs only [Option.getD_none, Option.isSome_none, eqA, eqD, go_sem]
      exact ⟨hr, Evo.refl _ _⟩
    | some i =>
      by_cases h4 : i < 4
      · simp -implicitDefEqProofs only [Option.getD_some, Option.isSome_some, h4, Bool.false_eq_true, eqA, eqD, go_sem]
        exact ⟨hr, Evo.refl _ _⟩
      · have hs : (h.g i).isSome = true := (ow i hid).resolve_left h4
        obtain ⟨p, hp⟩ := Option.isSome_iff_exists.1 hs
        obtain ⟨s1, s2⟩ := ki.shp i p hp
        have c2 : clsM h i = 2 := by unfold clsM obM; rw [hp]; exact s1
        have c3 : fldM h i = 3 := by unfold fldM obM; rw [hp]; show ((h.X p).2.length : Int) = 3; rw [s2]; rfl
        simp -implicitDefEqProofs only [Option.getD_some, Option.isSome_some, h4, Bool.false_eq_true, eqA, eqD, go_sem]
        refine CW.mono (c_ClassM hr i) ?_
        rw [c2]
        rintro v H2 ⟨rfl, r2, ev2⟩
        simp -implicitDefEqProofs only [bne_self_eq_false, Bool.false_eq_true, eqA, eqD, go_sem]
        refine CW.mono (c_FieldsM r2 i) ?_
        rw [c3]
        rintro v H3 ⟨rfl, r3, ev3⟩
        simp -implicitDefEqProofs only [bne_self_eq_false, Bool.false_eq_true, Int.lt_irrefl, eqA, eqD, go_sem]
        refine WP_mono (Q := fun ex fr H' => ex = .exit 0 ∧ H' = H3) ?_ (WP_loop (fun m fr H' => fr.get 2 = some (.int .i64 0) ∧ fr.get 9 = some (.int .i64 0) ∧ H' = H3) 0 ?_ ?_)
        · rintro ex fr G ⟨rfl, rfl⟩
          simp -implicitDefEqProofs only [eqA, eqD, go_sem]
          exact ⟨r3, ev2.then ev3 fun _ _ h => h⟩
        · simp -implicitDefEqProofs only [eqA, eqD, go_sem]
        · rintro m fr G ⟨g2, g9, rfl⟩
          simp -implicitDefEqProofs only [g2, g9, Bool.false_eq_true, Int.lt_irrefl, eqA, eqD, go_sem]
  | succ d ih =>
    intro H w hr hd hw ow
    refine CW_of (fn := af25) rfl ?_
    dsimp only [af25, qm, q, qG, qn, qi, qb, qB, qk, qc, qo, qg, qv, qr]
    simp -implicitDefEqProofs only [eqA, eqD, go_sem]
    refine CW.mono (c_rID hw) ?_
    rintro v H1 ⟨rfl, rfl⟩
    cases hid : idP (w : Int) with
    | none =>
      simp -implicitDefEqProofs only [Option.getD_none, Option.isSome_none, eqA, eqD, go_sem]
      exact ⟨hr, Evo.refl _ _⟩
    | some i =>
      by_cases h4 : i < 4
      · simp -implicitDefEqProofs only [Option.getD_some, Option.isSome_some, h4, Bool.false_eq_true, eqA, eqD, go_sem]
        exact ⟨hr, Evo.refl _ _⟩
      · have hs : (h.g i).isSome = true := (ow i hid).resolve_left h4
        obtain ⟨p, hp⟩ := Option.isSome_iff_exists.1 hs
        obtain ⟨s1, s2⟩ := ki.shp i p hp
        have c2 : clsM h i = 2 := by unfold clsM obM; rw [hp]; exact s1
        have c3 : fldM h i = 3 := by unfold fldM obM; rw [hp]; show ((h.X p).2.length : Int) = 3; rw [s2]; rfl
        simp -implicitDefEqProofs only [Option.getD_some, Option.isSome_some, h4, Bool.false_eq_true, eqA, eqD, go_sem]
        refine CW.mono (c_ClassM hr i) ?_
        rw [c2]
        rintro v H2 ⟨rfl, r2, ev2⟩
        simp -implicitDefEqProofs only [bne_self_eq_false, Bool.false_eq_true, eqA, eqD, go_sem]
        refine CW.mono (c_FieldsM r2 i) ?_
        rw [c3]
        rintro v H3 ⟨rfl, r3, ev3⟩
        have ev := ev2.then ev3 fun _ _ h => h
        simp -implicitDefEqProofs only [bne_self_eq_false, Bool.false_eq_true, eqA, eqD, go_sem]
        refine WP_mono (Q := fun ex fr H' => ex = .exit 0 ∧ HR A n H' h ∧ Evo A.d H1 H') ?_ (WP_loop (fun m fr H' => ∃ q : Nat, m = 3 - q ∧ q ≤ 3 ∧ fr.get 0 = some (.ptr (some (A.b, 0))) ∧ fr.get 2 = some (.int .i64 ((d + 1 : Nat) : Int)) ∧ fr.get 7 = some (.int .i64 i) ∧ fr.get 9 = some (.int .i64 q) ∧ HR A n H' h ∧ Evo A.d H1 H') 3 ?_ ?_)
        · rintro ex fr G ⟨rfl, r, e⟩
          simp -implicitDefEqProofs only [eqA, eqD, go_sem]
          exact ⟨r, e⟩
        · refine ⟨0, rfl, by omega, ?_⟩
          simp -implicitDefEqProofs only [eqA, eqD, go_sem]
          exact ⟨r3, ev⟩
        · rintro m fr G ⟨q, hm, hq, g0, g2, g7, g9, r, e⟩
          have d0 : (0 : Int) < ((d + 1 : Nat) : Int) := by omega
          have hwd : IntKind.i64.wrap (((d + 1 : Nat) : Int) - 1) = (d : Int) := by rw [wrap64 (by omega) (by omega)]; omega
          by_cases hlt : q < 3
          · have hlt' : (q : Int) < 3 := by omega
            have hw3 := wrapS hlt (by omega)
            have hq2 : q < (h.X p).2.length := by omega
            have gq : getM h i (q : Int) = some (h.X p).2[q] := by
              unfold getM obM
              rw [hp]
              show (if 0 ≤ (q : Int) then (h.X p).2[((q : Nat) : Int).toNat]? else none) = _
              rw [if_pos (by omega), Int.toNat_natCast, List.getElem?_eq_getElem hq2]
            have hmem : (h.X p).2[q] ∈ (h.X p).2 := List.getElem_mem hq2
            obtain ⟨u1, u2⟩ := (r.ok.x i p hp).2.2 _ hmem
            have ow' := ki.liv i p hp _ hmem
            generalize (h.X p).2[q] = z at *
            obtain ⟨z', rfl⟩ := Int.eq_ofNat_of_zero_le (a := z) (by omega)
            simp -implicitDefEqProofs only [g0, g2, g7, g9, hlt', d0, hwd, eqA, eqD, go_sem]
            refine CW.mono (c_Get r i (q : Int)) ?_
            rw [gq]
            rintro v G1 ⟨rfl, r1, e1⟩
            simp -implicitDefEqProofs only [g0, g2, g7, g9, hwd, Option.getD_some, Option.isSome_some, Bool.false_eq_true, eqA, eqD, go_sem]
            refine CW.mono (ih r1 (by omega) (by omega) ow') ?_
            rintro v G2 ⟨rfl, r4, e4⟩
            simp -implicitDefEqProofs only [g0, g2, g7, g9, hw3, Bool.false_eq_true, eqA, eqD, go_sem]
            exact ⟨3 - (q + 1), by omega, q + 1, rfl, by omega, rfl, r4, (e.then e1 fun _ _ h => h).then e4 fun _ _ h => h⟩
          · obtain rfl : q = 3 := by omega
            have e5 : ¬ ((3 : Nat) : Int) < 3 := by omega
            simp -implicitDefEqProofs only [g0, g2, g7, g9, e5, Int.lt_irrefl, Bool.false_eq_true, eqA, eqD, go_sem]
            exact ⟨r, e⟩
end
set_option maxHeartbeats 8000000
abbrev ruw (r : List Int) : List AV := r.map fun w => AV.int .u32 w
theorem ruw_set : ∀ {r : List Int} {i : Nat} {w : Int}, i < r.length → setAt (ruw r) i [.int .u32 w] = ruw (r.set i w)
  | _ :: _, 0, _, _ => rfl
  | a :: r, i + 1, w, h => by
    have := ruw_set (r := r) (i := i) (w := w) (by simpa using h)
    rw [List.set_cons_succ]
    unfold setAt at this ⊢
    simp only [ruw, List.map_cons, List.take_succ_cons, List.cons_append, List.drop_succ_cons, List.length_singleton] at this ⊢
    rw [this]
theorem RW.ok {h : HM} {w : Int} (r : RW h w) : OKw h w := by
  obtain ⟨-, j, hj, hs⟩ := r
  intro k hk
  rw [hj] at hk
  obtain rfl : j = k := Option.some.inj hk
  exact .inr hs
theorem RW.nat {h : HM} {w : Int} (r : RW h w) : ∃ u : Nat, w = (u : Int) ∧ u < 4294967296 := by
  obtain ⟨⟨h0, h1⟩, -⟩ := r
  obtain ⟨u, hu⟩ := Int.eq_ofNat_of_zero_le h0
  exact ⟨u, hu, by omega⟩
section
variable {A : PA} {R : RA} {B : Nat → Bool} {n : Nat → Nat} {H0 H H' : AHeap} {h h' : HM} {x y : Nat} {r : List Int}
theorem KK.trans {H2 : AHeap} (a : KK A R H H') (b : KK A R H' H2) : KK A R H H2 :=
  ⟨Nat.le_trans a.1 b.1, fun x hx h1 h2 => by rw [b.2 x (Nat.lt_of_lt_of_le hx a.1) h1 h2, a.2 x hx h1 h2]⟩
theorem KK.rd {cs : List AV} (a : KK A R H H') (tA : A.T y = 0) (tR : R.T y = 0) (hr : Rd H y 0 cs) : Rd H' y 0 cs := hr.keep a.1 (a.2 y hr.1 tA tR)
structure KW (A : PA) (R : RA) (B : Nat → Bool) (n : Nat → Nat) (H0 H : AHeap) (h : HM) (x : Nat) (r : List Int) : Prop where
  jb : JB A R B n H0 H h h
  ki : KI h none
  rw : ∀ w, w ∈ r → RW h w
  len : r.length = 4
  arr : Arr H x (ruw r) fun z => B z = true ∧ z ≠ x
  bx : B x = true
theorem KW.tx (k : KW A R B n H0 H h x r) : A.T x = 0 ∧ R.T x = 0 := ⟨k.jb.bA k.bx, k.jb.b x k.bx⟩
theorem KW.move (k : KW A R B n H0 H h x r) (kk : KK A R H H') (jb : JB A R B n H0 H' h' h') (ki : KI h' none) (hw : ∀ w, w ∈ r → RW h' w) : KW A R B n H0 H' h' x r :=
  ⟨jb, ki, hw, k.len, k.arr.keep kk.1 (kk.2 x k.arr.1 k.tx.1 k.tx.2), k.bx⟩
theorem KW.rdx (k : KW A R B n H0 H h x r) (kk : KK A R H H') : Rd H' x 0 (ruw r) := (k.arr.keep kk.1 (kk.2 x k.arr.1 k.tx.1 k.tx.2)).rd
theorem rd_root (k : Rd H x 0 (ruw r)) (hl : r.length = 4) (hw : ∀ w, w ∈ r → RW h w) {i : Nat} (hi : i < 4) : ∃ w : Nat, loadA H x i 1 = some [.int .u32 (w : Int)] ∧ w < 4294967296 ∧ RW h (w : Int) ∧ ∀ G, Rd G x 0 (ruw r) → loadA G x i 1 = some [.int .u32 (w : Int)] := by
  have hil : i < r.length := by omega
  have hr := hw _ (List.getElem_mem hil)
  obtain ⟨u, hu, hu2⟩ := hr.nat
  have key : ∀ G, Rd G x 0 (ruw r) → loadA G x i 1 = some [.int .u32 (u : Int)] := fun G hG => by
    have := hG.one (j := i) (v := .int .u32 r[i]) (by rw [List.getElem?_map, List.getElem?_eq_getElem hil]; rfl)
    rw [Nat.zero_add, hu] at this
    exact this
  rw [hu] at hr
  exact ⟨u, key H k, hu2, hr, key⟩
theorem KW.rowW (k : KW A R B n H0 H h x r) (kk : KK A R H H') : RowW A H' (.slice (some (x, 0)) 1 4 false) r :=
  ⟨some (x, 0), 1, false, by rw [k.len], by rw [k.len]; omega, fun w hw => (k.rw w hw).1, fun _ => ⟨x, 0, rfl, k.tx.1, k.rdx kk⟩⟩
theorem KW.rowX (k : KW A R B n H0 H h x r) (kk : KK A R H H') : RowX R H' (.slice (some (x, 0)) 1 4 false) r :=
  ⟨some (x, 0), 1, false, by rw [k.len], by rw [k.len]; omega, fun w hw => (k.rw w hw).1, fun _ => ⟨x, 0, rfl, k.tx.2, k.rdx kk⟩⟩
theorem KK.refl (H : AHeap) : KK A R H H := ⟨Nat.le_refl _, fun _ _ _ _ => rfl⟩
theorem KW.store (k : KW A R B n H0 H h x r) {i : Nat} (hi : i < 4) {w : Int} (hw : RW h w) : ∃ H', storeA H x i [.int .u32 w] = some H' ∧ KW A R B n H0 H' h x (r.set i w) ∧ ∀ y, B y = false → ∀ cs, Rd H y 0 cs → Rd H' y 0 cs := by
  have hil : i < r.length := by rw [k.len]; exact hi
  obtain ⟨H', e1, e2, e3, e4⟩ := k.arr.store (o := i) (vs := [.int .u32 w]) (by simp; omega) (ruw_set hil).symm
  have e4' : ∀ y, B y = false → H'.get y = H.get y := fun y hy => e4 y (fun e => by rw [e, k.bx] at hy; cases hy) fun hh => by rw [hh.1] at hy; cases hy
  have hl : H.next ≤ H'.next := by omega
  refine ⟨H', e1, ⟨k.jb.grow hl (fun y _ hy => e4' y hy) (fun _ _ => rfl) fun y hy => by have := k.jb.lt hy; omega, k.ki, fun v hv => ?_, by rw [List.length_set]; exact k.len, e3, k.bx⟩, fun y hy cs hr => hr.keep hl (e4' y hy)⟩
  rcases List.mem_or_eq_of_mem_set hv with hv | rfl
  · exact k.rw v hv
  · exact hw
theorem KW.hold (k : KW A R B n H0 H h x r) {H1 H2 : AHeap} (k1 : KK A R H H1) (k2 : KK A R H1 H2) (jb : JB A R B n H0 H2 (holdM h r) (holdM h r)) : KW A R B n H0 H2 (holdM h r) x r ∧ ∀ w, w ∈ r → NE (holdM h r) w := by
  obtain ⟨q1, q2, q3, q4, q5⟩ := hold_rows r k.jb.j.a.ok
  exact ⟨k.move (k1.trans k2) jb (q3 none k.ki) fun w hw => (k.rw w hw).mono q1, q5⟩
theorem KW.scan (k : KW A R B n H0 H h x r) (ne : ∀ w, w ∈ r → NE h w) {H1 H2 : AHeap} {m : Int} (k1 : KK A R H H1) (k2 : KK A R H1 H2) (jb : JB A R B n H0 H2 (scanM h m).2 (scanM h m).2) : KW A R B n H0 H2 (scanM h m).2 x r ∧ ∀ w, w ∈ r → NE (scanM h m).2 w := by
  obtain ⟨q1, q2, q3⟩ := scanN_keep 262145 k.jb.j.a.ok k.ki (min m 1048576) 0
  exact ⟨k.move (k1.trans k2) jb q1 fun w hw => (k.rw w hw).mono q2, fun w hw => q3 w (ne w hw)⟩
theorem KW.flip (k : KW A R B n H0 H h x r) (ne : ∀ w, w ∈ r → NE h w) {H1 H2 : AHeap} (k1 : KK A R H H1) (k2 : KK A R H1 H2) (jb : JB A R B n H0 H2 (flipM h).2 (flipM h).2) : KW A R B n H0 H2 (flipM h).2 x r := by
  obtain ⟨q1, q2⟩ := flip_keep k.jb.j.a.ok k.ki
  exact k.move (k1.trans k2) jb q1 fun w hw => q2 w (k.rw w hw) (ne w hw)
theorem KW.put (k : KW A R B n H0 H h x r) {i j w : Int} (hw : OKw h w) {H1 H2 : AHeap} (k1 : KK A R H H1) (k2 : KK A R H1 H2) (jb : JB A R B n H0 H2 (putM h i j w).2 (putM h i j w).2) : KW A R B n H0 H2 (putM h i j w).2 x r := by
  obtain ⟨q1, q2, -⟩ := put_keep k.jb.j.a.ok k.ki i j hw
  exact k.move (k1.trans k2) jb q1 fun w hw => (k.rw w hw).mono q2
theorem KW.swap (k : KW A R B n H0 H h x r) {a b : Int} {H1 H2 : AHeap} (k1 : KK A R H H1) (k2 : KK A R H1 H2) (jb : JB A R B n H0 H2 (swapM h a b).2 (swapM h a b).2) : KW A R B n H0 H2 (swapM h a b).2 x r := by
  obtain ⟨q1, q2, -⟩ := swap_keep k.jb.j.a.ok k.ki a b
  exact k.move (k1.trans k2) jb q1 fun w hw => q2 w (k.rw w hw)
end
set_option maxHeartbeats 8000000
def nK : Nat → Nat := fun s => if s = 0 then 30 else if s = 1 then 30 else if s = 2 then 10 else if s = 3 then 4 else 2
theorem nK_cfg : Cfg nK := ⟨fun s _ => by unfold nK; (repeat' split) <;> omega, by decide, by decide⟩
structure KG (A : PA) (R : RA) (B : Nat → Bool) (H0 H : AHeap) (h : HM) (v : AV) (r : List Int) : Prop where
  jb : JB A R B nK H0 H h h
  ki : KI h none
  rw : ∀ w, w ∈ r → RW h w
  one : OneRow nK h 1 1 r.length
  gw : Gw H 1 v r.length (ruw r) fun z => B z = true
theorem empty_one : OneRow nK (emptyM nK) 1 1 0 := ⟨empty_ok nK_cfg, rfl, fun t k _ _ _ _ => by
  rename_i h1 h2 h3
  match k, h1, h2 with
  | 1, _, _ => rfl
  | 2, _, _ => rfl
  | 3, _, _ => rfl⟩
theorem empty_ki : KI (emptyM nK) none := ⟨fun i p hp => (by cases hp), fun i p hp => (by cases hp), fun i p hp => (by cases hp)⟩
section
variable {A : PA} {R : RA} {B : Nat → Bool} {H0 H : AHeap} {h : HM} {v : AV} {r : List Int}
theorem KG.alloc (k : KG A R B H0 H h v r) (hr : r.length < 4) : ∃ i : Nat, (allocM h 2 3).1 = (i : Int) ∧ 4 ≤ i ∧ i < 1024 ∧ KI (allocM h 2 3).2 none ∧ (∀ w, RW h w → RW (allocM h 2 3).2 w) ∧ RW (allocM h 2 3).2 ((2 * i : Nat) : Int) ∧ OneRow nK (allocM h 2 3).2 1 1 (r.length + 1) := by
  have hz : szP 3 = 1 := by unfold szP; omega
  have on := OneRow.alloc (c := 2) (f := 3) (by rw [hz]; omega) (by omega) (by omega) (by rw [hz]; exact k.one) (by rw [hz]; show r.length < 30; omega)
  rw [hz] at on
  rcases alloc_keep k.jb.j.a.ok k.ki with ⟨e, -⟩ | ⟨a1, a2, a3, a4, -, a6⟩
  · have := on.1; omega
  · obtain ⟨i, hi⟩ := Int.eq_ofNat_of_zero_le (a := (allocM h 2 3).1) (by omega)
    refine ⟨i, hi, by omega, by omega, a3, a4, ?_, on.2⟩
    rw [hi] at a6
    have e : ((2 * i : Nat) : Int) = 2 * (i : Int) := by omega
    rw [e]; exact a6
end
section
variable {H : AHeap}
theorem c_HeapKeeps {v : AV} {l : List As4} (hl : SlE AsE 4 H l [v]) (hm : l.length ≤ 9223372036854775807) (turns : Int) : CW MN 5 [v, .int .i64 turns] H fun u _ => u = .bool true := by
  refine CW_of (fn := af5) rfl ?_
  obtain ⟨a, s0, cl, rfl, -⟩ := hl.shape
  dsimp only [af5, qm, q, qG, qn, qi, qb, qB, qk, qc, qo, qg, qv, qr]
  obtain ⟨H1, st1, n1, s1, rd1⟩ := store_new H [.int .i64 0, .int .i64 0, .int .i64 0, .int .i64 0, .int .i64 0, .int .i64 0] [.int .i64 30, .int .i64 30, .int .i64 10, .int .i64 4, .int .i64 2, .int .i64 1] rfl
  have l6 := rd1.load (n := 6) rfl
  simp -implicitDefEqProofs only [st1, l6, eqA, eqD, go_sem]
  refine CW.mono (c_hNew nK_cfg (p := 1) (by omega) (by omega)) ?_
  rintro v H2 ⟨A, rfl, hA, s2, hA0⟩
  have l62 := (rd1.keep s2.1 (s2.gt rd1.1)).load (n := 6) rfl
  simp -implicitDefEqProofs only [l62, Bool.false_eq_true, eqA, eqD, go_sem]
  refine CW.mono (c_refNew nK_cfg 1) ?_
  rintro v H4 ⟨R, rfl, hR, s4, hlo⟩
  have hb1 := s1.1
  have hb2 := s2.1
  have j0 : JB A R (fun _ => false) nK H H4 (emptyM nK) (emptyM nK) := by
    obtain ⟨F, hbA, -⟩ := hA.hb
    obtain ⟨c, hbR, -⟩ := hR.rb
    refine ⟨⟨(hA.evoS s4).1, ?_, fun x hx => hbA.new x (by have : R.lo ≤ x := hx; omega), fun x hx => ?_, s1.trans (s2.trans s4), fun x hx => hA0 x (by omega), fun x hx => ?_⟩, fun x hx => by cases hx⟩
    · exact hR
    · show R.T x = 0
      apply Classical.byContradiction
      intro hn
      have := hbR.low x hn
      exact hx (hbA.new x (by omega))
    · show R.T x = 0
      apply Classical.byContradiction
      intro hn
      have := hbR.low x hn
      omega
  clear hA hR rd1 l6 l62
  simp -implicitDefEqProofs only [eqA, eqD, go_sem]
  refine WP_mono (Q := fun ex fr G => ex = .exit 0 ∧ fr.get 0 = some (.slice a s0 l.length cl) ∧ fr.get 1 = some (.int .i64 turns) ∧ fr.get 6 = some (.ptr (some (A.b, 0))) ∧ fr.get 7 = some (.ptr (some (R.b, 0))) ∧ ∃ B h x r, fr.get 8 = some (.slice (some (x, 0)) 1 4 false) ∧ KW A R B nK H G h x r) ?_ (WP_loop (fun m fr G => ∃ B h v r, m = 4 - r.length ∧ r.length ≤ 4 ∧ fr.get 0 = some (.slice a s0 l.length cl) ∧ fr.get 1 = some (.int .i64 turns) ∧ fr.get 6 = some (.ptr (some (A.b, 0))) ∧ fr.get 7 = some (.ptr (some (R.b, 0))) ∧ fr.get 8 = some v ∧ fr.get 9 = some (.int .i64 r.length) ∧ KG A R B H G h v r) 4 ?_ ?_)
  rotate_left
  · refine ⟨fun _ => false, emptyM nK, .slice none 1 0 true, [], rfl, by simp, ?_⟩
    simp -implicitDefEqProofs only [eqA, eqD, go_sem]
    exact ⟨j0, empty_ki, by simp, empty_one, rfl, .inl ⟨1, rfl, rfl⟩⟩
  · rintro m fr G ⟨B, h, v, r, hm', hr, g0, g1, g6, g7, g8, g9, kg⟩
    have r0 : (0 : Int) ≤ r.length := by omega
    by_cases hlt : r.length < 4
    · have hlt' : (r.length : Int) < 4 := by omega
      obtain ⟨i, hi, i4, i1k, ki2, rw2, rwi, one2⟩ := kg.alloc hlt
      have hw := wrapS hlt (by omega)
      have hw2 : IntKind.i64.wrap (2 * (i : Int)) = ((2 * i : Nat) : Int) := by rw [wrap64 (by omega) (by omega)]; omega
      have cv : ∀ G, convA (.int .u32) (.int .i64 ((2 * i : Nat) : Int)) G = some (.int .u32 ((2 * i : Nat) : Int), G) := fun G => conv32 (by omega)
      simp -implicitDefEqProofs only [g0, g1, g6, g7, g8, g9, hlt', eqA, eqD, go_sem]
      refine CW.mono (c_Alloc kg.jb.j.a (c := 2) (f := 3) (by omega)) ?_
      rw [hi]
      rintro u G1 ⟨rfl, a1, ev1⟩
      obtain ⟨jb1, kk1⟩ := kg.jb.pa a1 ev1
      have gw1 := kg.gw.keep kk1.1 fun y hy => kk1.2 y (kg.jb.lt (kg.gw.ubP hy)) (kg.jb.bA (kg.gw.ubP hy)) (kg.jb.b y (kg.gw.ubP hy))
      have hnx : ∀ z, B z = true → z < G1.next := fun z hz => by have := kg.jb.lt hz; have := kk1.1; omega
      obtain ⟨G2, e1, e2, e3, e4⟩ := gw1.push (bytes := 4) (ys := [.int .u32 ((2 * i : Nat) : Int)]) hnx rfl (by omega) (by omega)
      obtain ⟨B2, hB2⟩ : ∃ B2 : Nat → Bool, ∀ z, B2 z = (B z || z == G1.next + 1) := ⟨_, fun _ => rfl⟩
      have jb2 := jb1.grow (B' := B2) (by omega) (fun y hy hB => e3.keep hy fun e => by have q : B y = true := gw1.ubP e; rw [q] at hB; cases hB) (fun y hy => by
        have : (y == G1.next + 1) = false := beq_eq_false_iff_ne.2 (by omega)
        rw [hB2, this, Bool.or_false]) (fun y hy => by
        rw [hB2] at hy
        rcases Bool.or_eq_true_iff.1 hy with hy | hy
        · have := hnx y hy; omega
        · have := beq_iff_eq.1 hy; omega)
      have gw2 := e4.mono (P' := fun z => B2 z = true) fun z hz => by
        rw [hB2]
        rcases hz with hz | hz
        · rw [hz]; rfl
        · rw [hz, BEq.rfl, Bool.or_true]
      simp -implicitDefEqProofs only [g0, g1, g6, g7, g8, g9, hw2, cv, e1, eqA, eqD, go_sem]
      refine CW.mono (jb2.ref (c_rAllocH (R := tg R B2) jb2.j.r (c := 2) (f := 3) (by omega)) (c_rAllocH jb2.un (c := 2) (f := 3) (by omega))) ?_
      rintro u G3 ⟨-, jb3, kk3⟩
      have el : (r ++ [((2 * i : Nat) : Int)]).length = r.length + 1 := by simp
      have gw3 := gw2.keep kk3.1 fun y hy => kk3.2 y (jb2.lt (gw2.ubP hy)) (jb2.bA (gw2.ubP hy)) (jb2.b y (gw2.ubP hy))
      simp -implicitDefEqProofs only [g0, g1, g6, g7, g8, g9, hw, eqA, eqD, go_sem]
      refine ⟨4 - (r ++ [((2 * i : Nat) : Int)]).length, by omega, B2, _, _, r ++ [((2 * i : Nat) : Int)], rfl, by omega, rfl, by rw [el], jb3, ki2, fun w hw => ?_, by rw [el]; exact one2, ?_⟩
      · rcases List.mem_append.1 hw with hw | hw
        · exact rw2 w (kg.rw w hw)
        · obtain rfl := List.mem_singleton.1 hw
          exact rwi
      · rw [el, ruw, List.map_append]
        exact gw3
    · have e4 : r.length = 4 := by omega
      have e5 : ¬ (r.length : Int) < 4 := by omega
      simp -implicitDefEqProofs only [g0, g1, g6, g7, g8, g9, e5, Bool.false_eq_true, eqA, eqD, go_sem]
      obtain ⟨jb, ki, rw_, -, gl, ⟨s0, -, e0⟩ | ⟨x, rfl, hx, ar⟩⟩ := kg
      · omega
      · exact ⟨B, h, x, r, by rw [e4], jb, ki, rw_, e4, ar, hx⟩
  rintro ex fr G ⟨rfl, g0, g1, g6, g7, B, h, x, r, g8, kw⟩
  simp -implicitDefEqProofs only [g0, g1, g6, g7, g8, eqA, eqD, go_sem]
  refine WP_mono (Q := fun ex fr G => ex = .exit 2 ∧ fr.get 6 = some (.ptr (some (A.b, 0))) ∧ fr.get 7 = some (.ptr (some (R.b, 0))) ∧ ∃ h r, KW A R B nK H G h x r) ?_ (WP_loop (fun m fr G => ∃ (i : Nat) (h : HM) (r : List Int), m = 100 - i ∧ i ≤ l.length ∧ i ≤ 100 ∧ fr.get 0 = some (.slice a s0 l.length cl) ∧ fr.get 1 = some (.int .i64 turns) ∧ fr.get 6 = some (.ptr (some (A.b, 0))) ∧ fr.get 7 = some (.ptr (some (R.b, 0))) ∧ fr.get 8 = some (.slice (some (x, 0)) 1 4 false) ∧ fr.get 10 = some (.int .i64 i) ∧ KW A R B nK H G h x r) 100 ?_ ?_)
  · rintro ex fr G ⟨rfl, g6, g7, h, r, kw⟩
    simp -implicitDefEqProofs only [g6, g7, eqA, eqD, go_sem]
    refine CW.mono (c_same (R := tg R B) kw.jb.j) ?_
    rintro v G1 ⟨rfl, j5⟩
    simp -implicitDefEqProofs only [eqA, eqD, go_sem]
    refine CW.mono c_known9 ?_
    rintro v G2 rfl
    simp -implicitDefEqProofs only [eqA, eqD, go_sem]
  · refine ⟨0, h, r, rfl, by omega, by omega, ?_⟩
    simp -implicitDefEqProofs only [g0, g1, g6, g7, g8, eqA, eqD, go_sem]
    exact kw
  clear kw g0 g1 g6 g7 g8
  rintro m fr G ⟨i, h, r, hm', hi, hi2, g0, g1, g6, g7, g8, g10, kw⟩
  have i0 : (0 : Int) ≤ i := by omega
  by_cases hlt : i < l.length
  rotate_left
  · obtain rfl : i = l.length := by omega
    simp -implicitDefEqProofs only [g0, g1, g6, g7, g8, g10, Int.lt_irrefl, Bool.false_eq_true, eqA, eqD, go_sem]
    exact ⟨h, r, kw⟩
  have hlt' : (i : Int) < (l.length : Int) := by omega
  by_cases h100 : i < 100
  rotate_left
  · obtain rfl : i = 100 := by omega
    have e5 : (100 : Int) < (l.length : Int) := by omega
    simp -implicitDefEqProofs only [g0, g1, g6, g7, g8, g10, e5, Int.lt_irrefl, Bool.false_eq_true, eqA, eqD, go_sem]
    exact ⟨h, r, kw⟩
  have h100' : (i : Int) < 100 := by omega
  have hw : IntKind.i64.wrap ((i : Int) + 1) = ((i + 1 : Nat) : Int) := wrapS hlt hm
  obtain ⟨y0, o, c, rfl, rfl, -, -, ⟨ec, -⟩, hrow⟩ := (MonoE.enc.sl _ _ _ _ hl kw.jb.j.s).at hlt
  rw [ec] at hrow
  generalize l[i] = e at *
  have l4 := hrow.load (n := 4) rfl
  obtain ⟨G1, st, n2, sm2, rd2⟩ := store_new G [.int .i64 0, .int .i64 0, .int .i64 0, .int .i64 0] (asC e) rfl
  obtain ⟨y, hy⟩ : ∃ y, y = G.next := ⟨_, rfl⟩
  have yA : A.T y = 0 := by obtain ⟨F, hbA, -⟩ := kw.jb.j.a.hb; exact hbA.new _ (by omega)
  have yR : R.T y = 0 := kw.jb.un.new _ (by omega)
  have yB : B y = false := by
    cases q : B y with
    | false => rfl
    | true => have := kw.jb.lt q; omega
  obtain ⟨jb1, kk1⟩ := kw.jb.sm sm2
  have kw1 := kw.move kk1 jb1 kw.ki kw.rw
  clear kk1 jb1 kw sm2 hrow
  rw [← hy] at st rd2
  obtain ⟨a0, a1, a2, a3⟩ := rd4 rd2
  unfold asC at l4 st
  obtain ⟨i1, hi1, hi1'⟩ : ∃ i1 : Nat, wiP e.i 0 3 = i1 ∧ i1 < 4 := by
    have := wiP_bd (n := e.i) (lo := 0) (hi := 3) (by omega)
    obtain ⟨q, hq⟩ := Int.eq_ofNat_of_zero_le this.1
    exact ⟨q, hq, by omega⟩
  obtain ⟨kd, hkd⟩ : ∃ kd, wiP e.k 0 4 = kd := ⟨_, rfl⟩
  obtain ⟨w, lw, w32, rw_, lwG⟩ := rd_root kw1.arr.rd kw1.len kw1.rw hi1'
  obtain ⟨-, j, hj, hs⟩ := rw_
  have i1a : (0 : Int) ≤ i1 := by omega
  have i1b : (i1 : Int) < 4 := by omega
  simp -implicitDefEqProofs only [g0, g1, g6, g7, g8, g10, hlt', h100', i0, l4, ← hy, st, n2, a0, a1, a2, a3, eqA, eqD, go_sem]
  refine CW.mono (c_withinF e.i 0 3 _ (by omega) (by omega) (by omega)) ?_
  rw [hi1]
  rintro v G' ⟨rfl, rfl⟩
  simp -implicitDefEqProofs only [g0, g1, g6, g7, g8, g10, i1a, i1b, lw, a0, a1, a2, a3, Nat.zero_add, eqA, eqD, go_sem]
  refine CW.mono (c_rID w32) ?_
  rw [hj]
  rintro v G' ⟨rfl, rfl⟩
  simp -implicitDefEqProofs only [g0, g1, g6, g7, g8, g10, a0, a1, a2, a3, Option.getD_some, Option.isSome_some, Nat.zero_add, Bool.false_eq_true, eqA, eqD, go_sem]
  refine CW.mono (c_withinF e.k 0 4 _ (by omega) (by omega) (by omega)) ?_
  rw [hkd]
  rintro v G' ⟨rfl, rfl⟩
  simp -implicitDefEqProofs only [KO_eq, putA_some, ↓OW_nil, KS_normal]
  refine WP_mono (Q := fun ex fr G => ex = .normal ∧ fr.get 0 = some (.slice (some (y0, o)) 4 l.length cl) ∧ fr.get 1 = some (.int .i64 turns) ∧ fr.get 6 = some (.ptr (some (A.b, 0))) ∧ fr.get 7 = some (.ptr (some (R.b, 0))) ∧ fr.get 8 = some (.slice (some (x, 0)) 1 4 false) ∧ fr.get 10 = some (.int .i64 i) ∧ fr.get 11 = some (.ptr (some (y, 0))) ∧ ∃ h r, KW A R B nK H G h x r ∧ Rd G y 0 (asC e)) ?_ ?_
  · rintro ex fr G ⟨rfl, g0, g1, g6, g7, g8, g10, g11, h, r, kw, rd⟩
    simp -implicitDefEqProofs only [g0, g1, g6, g7, g8, g10, g11, eqA, eqD, go_sem]
    refine CW.mono (c_Hold kw.jb.j.a (kw.rowW (KK.refl G))) ?_
    rintro u G1 ⟨r1, ev1⟩
    obtain ⟨jb1, k1⟩ := kw.jb.pa r1 ev1
    simp -implicitDefEqProofs only [g0, g1, g6, g7, g8, g10, g11, eqA, eqD, go_sem]
    refine CW.mono (c_rHold2 jb1 (kw.rowX k1)) ?_
    rintro u G2 ⟨jb2, k2⟩
    obtain ⟨kw2, ne2⟩ := kw.hold k1 k2 jb2
    have rd2 := k2.rd yA yR (k1.rd yA yR rd)
    obtain ⟨-, -, -, a3⟩ := rd4 rd2
    obtain ⟨q, hq, hand⟩ : ∃ q : Nat, q ≤ 15 ∧ binA .and (.sc .int) (.int .i64 e.n) (.int .i64 15) = some (.int .i64 (q : Int)) := andB e.n (b := 15) (by omega)
    have hw4 : IntKind.i64.wrap (4 + (q : Int)) = ((4 + q : Nat) : Int) := by rw [wrap64 (by omega) (by omega)]; omega
    generalize 4 + q = sc at *
    simp -implicitDefEqProofs only [g0, g1, g6, g7, g8, g10, g11, a3, ↓hand, hw4, eqA, eqD, go_sem]
    refine CW.mono (c_Scan kw2.jb.j.a (sc : Int)) ?_
    rintro u G3 ⟨rfl, r3, ev3⟩
    obtain ⟨jb3, k3⟩ := kw2.jb.pa r3 ev3
    have rd3 := k3.rd yA yR rd2
    obtain ⟨-, -, -, b3⟩ := rd4 rd3
    simp -implicitDefEqProofs only [g0, g1, g6, g7, g8, g10, g11, b3, ↓hand, hw4, eqA, eqD, go_sem]
    refine CW.mono (jb3.ref (c_rScanH (R := tg R B) jb3.j.r (sc : Int)) (c_rScanH jb3.un (sc : Int))) ?_
    rintro u G4 ⟨rfl, jb4, k4⟩
    obtain ⟨kw4, ne4⟩ := kw2.scan ne2 k3 k4 jb4
    have rd4' := k4.rd yA yR rd3
    obtain ⟨-, -, b2, -⟩ := rd4 rd4'
    obtain ⟨q1, -, hand1⟩ : ∃ q : Nat, q ≤ 1 ∧ binA .and (.sc .int) (.int .i64 turns) (.int .i64 1) = some (.int .i64 (q : Int)) := andB turns (b := 1) (by omega)
    obtain ⟨q2, -, hand2⟩ : ∃ q : Nat, q ≤ 1 ∧ binA .and (.sc .int) (.int .i64 e.j) (.int .i64 1) = some (.int .i64 (q : Int)) := andB e.j (b := 1) (by omega)
    simp -implicitDefEqProofs only [KO_eq, putA_some, ↓OW_nil, KS_normal]
    rw [WP_seq]
    refine WP_mono (Q := fun ex fr G => ex = .normal ∧ fr.get 0 = some (.slice (some (y0, o)) 4 l.length cl) ∧ fr.get 1 = some (.int .i64 turns) ∧ fr.get 6 = some (.ptr (some (A.b, 0))) ∧ fr.get 7 = some (.ptr (some (R.b, 0))) ∧ fr.get 8 = some (.slice (some (x, 0)) 1 4 false) ∧ fr.get 10 = some (.int .i64 i) ∧ ∃ h r, KW A R B nK H G h x r) ?_ ?_
    · rintro ex fr G ⟨rfl, g0, g1, g6, g7, g8, g10, h, r, kw⟩
      simp -implicitDefEqProofs only [g0, g1, g6, g7, g8, g10, eqA, eqD, go_sem]
      refine WP_mono (Q := fun ex fr G => ex = .exit 5 ∧ fr.get 0 = some (.slice (some (y0, o)) 4 l.length cl) ∧ fr.get 1 = some (.int .i64 turns) ∧ fr.get 6 = some (.ptr (some (A.b, 0))) ∧ fr.get 7 = some (.ptr (some (R.b, 0))) ∧ fr.get 8 = some (.slice (some (x, 0)) 1 4 false) ∧ fr.get 10 = some (.int .i64 i) ∧ KW A R B nK H G h x r) ?_ (WP_loop (fun m fr G => ∃ q : Nat, m = 4 - q ∧ q ≤ 4 ∧ fr.get 0 = some (.slice (some (y0, o)) 4 l.length cl) ∧ fr.get 1 = some (.int .i64 turns) ∧ fr.get 6 = some (.ptr (some (A.b, 0))) ∧ fr.get 7 = some (.ptr (some (R.b, 0))) ∧ fr.get 8 = some (.slice (some (x, 0)) 1 4 false) ∧ fr.get 10 = some (.int .i64 i) ∧ fr.get 219 = some (.slice (some (x, 0)) 1 4 false) ∧ fr.get 220 = some (.int .i64 4) ∧ fr.get 221 = some (.int .i64 q) ∧ KW A R B nK H G h x r) 4 ?_ ?_)
      · rintro ex fr G ⟨rfl, g0, g1, g6, g7, g8, g10, kw⟩
        simp -implicitDefEqProofs only [g0, g1, g6, g7, g8, g10, hw, eqA, eqD, go_sem]
        exact ⟨100 - (i + 1), by omega, i + 1, h, r, rfl, by omega, by omega, rfl, kw⟩
      · refine ⟨0, rfl, by omega, ?_⟩
        simp -implicitDefEqProofs only [g0, g1, g6, g7, g8, g10, eqA, eqD, go_sem]
        exact kw
      · rintro m' fr G ⟨q, hm2, hq4, g0, g1, g6, g7, g8, g10, f1, f2, f3, kw⟩
        by_cases hq : q < 4
        · have q0 : (0 : Int) ≤ q := by omega
          have q4 : (q : Int) < 4 := by omega
          have hwq := wrapS hq (by omega)
          obtain ⟨w, lw, w32, rw_, -⟩ := rd_root kw.arr.rd kw.len kw.rw hq
          simp -implicitDefEqProofs only [g0, g1, g6, g7, g8, g10, f1, f2, f3, q0, q4, lw, Nat.zero_add, eqA, eqD, go_sem]
          refine CW.mono (c_lives kw.ki 6 kw.jb.j.a (by omega) w32 rw_.ok) ?_
          rintro u G1 ⟨rfl, r1, ev1⟩
          obtain ⟨jb1, k1⟩ := kw.jb.pa r1 ev1
          simp -implicitDefEqProofs only [g0, g1, g6, g7, g8, g10, f1, f2, f3, hwq, Bool.false_eq_true, eqA, eqD, go_sem]
          exact ⟨4 - (q + 1), by omega, q + 1, rfl, by omega, rfl, kw.move k1 jb1 kw.ki kw.rw⟩
        · obtain rfl : q = 4 := by omega
          have e5 : ¬ ((4 : Nat) : Int) < 4 := by omega
          simp -implicitDefEqProofs only [g0, g1, g6, g7, g8, g10, f1, f2, f3, e5, Int.lt_irrefl, Bool.false_eq_true, eqA, eqD, go_sem]
          exact kw
    · cases z1 : ((q1 : Int) == 0) with
      | true =>
        simp -implicitDefEqProofs only [g0, g1, g6, g7, g8, g10, g11, ↓hand1, z1, Bool.false_eq_true, eqA, eqD, go_sem]
        refine CW.mono (c_Flip kw4.jb.j.a) ?_
        rintro u G5 ⟨rfl, r5, ev5⟩
        obtain ⟨jb5, k5⟩ := kw4.jb.pa r5 ev5
        simp -implicitDefEqProofs only [g0, g1, g6, g7, g8, g10, g11, eqA, eqD, go_sem]
        refine CW.mono (jb5.ref (c_rFlipH (R := tg R B) jb5.j.r) (c_rFlipH jb5.un)) ?_
        rintro u G6 ⟨rfl, jb6, k6⟩
        have kw6 := kw4.flip ne4 k5 k6 jb6
        simp -implicitDefEqProofs only [g0, g1, g6, g7, g8, g10, g11, eqA, eqD, go_sem]
        refine CW.mono (c_Hold kw6.jb.j.a (kw6.rowW (KK.refl G6))) ?_
        rintro u G7 ⟨r7, ev7⟩
        obtain ⟨jb7, k7⟩ := kw6.jb.pa r7 ev7
        simp -implicitDefEqProofs only [g0, g1, g6, g7, g8, g10, g11, eqA, eqD, go_sem]
        refine CW.mono (c_rHold2 jb7 (kw6.rowX k7)) ?_
        rintro u G8 ⟨jb8, k8⟩
        simp -implicitDefEqProofs only [g0, g1, g6, g7, g8, g10, g11, eqA, eqD, go_sem]
        exact ⟨_, _, (kw6.hold k7 k8 jb8).1⟩
      | false =>
        cases z2 : ((q2 : Int) == 0) with
        | true =>
          simp -implicitDefEqProofs only [g0, g1, g6, g7, g8, g10, g11, b2, ↓hand1, ↓hand2, z1, z2, Bool.false_eq_true, eqA, eqD, go_sem]
          refine CW.mono (c_Flip kw4.jb.j.a) ?_
          rintro u G5 ⟨rfl, r5, ev5⟩
          obtain ⟨jb5, k5⟩ := kw4.jb.pa r5 ev5
          simp -implicitDefEqProofs only [g0, g1, g6, g7, g8, g10, g11, eqA, eqD, go_sem]
          refine CW.mono (jb5.ref (c_rFlipH (R := tg R B) jb5.j.r) (c_rFlipH jb5.un)) ?_
          rintro u G6 ⟨rfl, jb6, k6⟩
          have kw6 := kw4.flip ne4 k5 k6 jb6
          simp -implicitDefEqProofs only [g0, g1, g6, g7, g8, g10, g11, eqA, eqD, go_sem]
          refine CW.mono (c_Hold kw6.jb.j.a (kw6.rowW (KK.refl G6))) ?_
          rintro u G7 ⟨r7, ev7⟩
          obtain ⟨jb7, k7⟩ := kw6.jb.pa r7 ev7
          simp -implicitDefEqProofs only [g0, g1, g6, g7, g8, g10, g11, eqA, eqD, go_sem]
          refine CW.mono (c_rHold2 jb7 (kw6.rowX k7)) ?_
          rintro u G8 ⟨jb8, k8⟩
          simp -implicitDefEqProofs only [g0, g1, g6, g7, g8, g10, g11, eqA, eqD, go_sem]
          exact ⟨_, _, (kw6.hold k7 k8 jb8).1⟩
        | false =>
          simp -implicitDefEqProofs only [g0, g1, g6, g7, g8, g10, g11, b2, ↓hand1, ↓hand2, z1, z2, Bool.false_eq_true, eqA, eqD, go_sem]
          exact ⟨_, _, kw4⟩
  obtain ⟨q3, hq3, hand3⟩ : ∃ q : Nat, q ≤ 3 ∧ binA .and (.sc .int) (.int .i64 e.n) (.int .i64 3) = some (.int .i64 (q : Int)) := andB e.n (b := 3) (by omega)
  have q3a : (0 : Int) ≤ q3 := by omega
  have q3b : (q3 : Int) < 4 := by omega
  have q34 : q3 < 4 := by omega
  by_cases d0 : kd = 0
  · have d0' : (kd == 0) = true := beq_iff_eq.2 d0
    simp -implicitDefEqProofs only [g0, g1, g6, g7, g8, g10, d0', eqA, eqD, go_sem]
    refine CW.mono (c_Alloc kw1.jb.j.a (c := 2) (f := 3) (by omega)) ?_
    rintro u G1 ⟨rfl, r1, ev1⟩
    obtain ⟨jb1, k1⟩ := kw1.jb.pa r1 ev1
    simp -implicitDefEqProofs only [g0, g1, g6, g7, g8, g10, eqA, eqD, go_sem]
    refine CW.mono (jb1.ref (c_rAllocH (R := tg R B) jb1.j.r (c := 2) (f := 3) (by omega)) (c_rAllocH jb1.un (c := 2) (f := 3) (by omega))) ?_
    rintro u G2 ⟨-, jb2, k2⟩
    have k12 := k1.trans k2
    have rd3 := k12.rd yA yR rd2
    rcases alloc_keep kw1.jb.j.a.ok kw1.ki with ⟨e1, e2⟩ | ⟨b1, b2, b3, b4, -, b6⟩
    · have neg : ¬ (0 : Int) < (allocM h 2 3).1 := by omega
      rw [e2] at jb2
      simp -implicitDefEqProofs only [g0, g1, g6, g7, g8, g10, neg, Bool.false_eq_true, eqA, eqD, go_sem]
      exact ⟨h, r, kw1.move k12 jb2 kw1.ki kw1.rw, rd3⟩
    · have kw2 := kw1.move k12 jb2 b3 fun w hw => b4 w (kw1.rw w hw)
      obtain ⟨id, hid⟩ := Int.eq_ofNat_of_zero_le (a := (allocM h 2 3).1) (by omega)
      rw [hid] at b6 ⊢
      have pos : (0 : Int) < (id : Int) := by omega
      have i1k : id < 1024 := by omega
      have hw2 : IntKind.i64.wrap (2 * (id : Int)) = ((2 * id : Nat) : Int) := by rw [wrap64 (by omega) (by omega)]; omega
      have e2i : ((2 * id : Nat) : Int) = 2 * (id : Int) := by omega
      rw [← e2i] at b6
      have cv : ∀ G, convA (.int .u32) (.int .i64 ((2 * id : Nat) : Int)) G = some (.int .u32 ((2 * id : Nat) : Int), G) := fun G => conv32 (by omega)
      clear jb1 jb2 b3 b4 r1 ev1
      generalize (allocM h 2 3).2 = h2 at *
      obtain ⟨w3, lw3, w332, rw3, lwG3⟩ := rd_root kw2.arr.rd kw2.len kw2.rw q34
      obtain ⟨q1, -, hand1⟩ : ∃ q : Nat, q ≤ 1 ∧ binA .and (.sc .int) (.int .i64 e.j) (.int .i64 1) = some (.int .i64 (q : Int)) := andB e.j (b := 1) (by omega)
      obtain ⟨-, -, b2, b3⟩ := rd4 rd3
      simp -implicitDefEqProofs only [g0, g1, g6, g7, g8, g10, pos, b2, b3, ↓hand1, ↓hand3, q3a, q3b, lw3, Nat.zero_add, eqA, eqD, go_sem]
      refine CW.mono (c_Put kw2.jb.j.a (id : Int) (q1 : Int) w332) ?_
      rintro u G3 ⟨rfl, r3, ev3⟩
      obtain ⟨jb3, k3⟩ := kw2.jb.pa r3 ev3
      have rd4' := k3.rd yA yR rd3
      obtain ⟨-, -, c2, c3⟩ := rd4 rd4'
      have lw4 := lwG3 G3 (kw2.rdx k3)
      simp -implicitDefEqProofs only [g0, g1, g6, g7, g8, g10, b2, b3, c2, c3, ↓hand1, ↓hand3, q3a, q3b, lw3, lw4, Nat.zero_add, eqA, eqD, go_sem]
      refine CW.mono (jb3.ref (c_rPut (R := tg R B) jb3.j.r (id : Int) (q1 : Int) w332) (c_rPut jb3.un (id : Int) (q1 : Int) w332)) ?_
      rintro u G4 ⟨rfl, jb4, k4⟩
      have kw4 := kw2.put rw3.ok k3 k4 jb4
      have rd5 := k4.rd yA yR rd4'
      obtain ⟨-, qg, -⟩ := put_keep kw2.jb.j.a.ok kw2.ki (id : Int) (q1 : Int) rw3.ok
      obtain ⟨G5, st5, kw5, rdk⟩ := kw4.store hi1' (b6.mono qg)
      simp -implicitDefEqProofs only [g0, g1, g6, g7, g8, g10, b2, b3, c2, c3, ↓hand1, ↓hand3, q3a, q3b, lw3, lw4, hw2, cv, i1a, i1b, st5, Nat.zero_add, eqA, eqD, go_sem]
      exact ⟨_, _, kw5, rdk y yB _ rd5⟩
  have d0' : (kd == 0) = false := beq_eq_false_iff_ne.2 d0
  by_cases d1 : kd = 1
  · have d1' : (kd == 1) = true := beq_iff_eq.2 d1
    obtain ⟨w3, lw3, w332, rw3, lwG3⟩ := rd_root kw1.arr.rd kw1.len kw1.rw q34
    simp -implicitDefEqProofs only [g0, g1, g6, g7, g8, g10, d0', d1', a2, a3, ↓hand3, q3a, q3b, lw3, Nat.zero_add, Bool.false_eq_true, eqA, eqD, go_sem]
    refine CW.mono (c_withinF e.j 0 2 _ (by omega) (by omega) (by omega)) ?_
    rintro v G' ⟨rfl, rfl⟩
    simp -implicitDefEqProofs only [g0, g1, g6, g7, g8, g10, a2, a3, ↓hand3, q3a, q3b, lw3, Nat.zero_add, Bool.false_eq_true, eqA, eqD, go_sem]
    refine CW.mono (c_Put kw1.jb.j.a j (wiP e.j 0 2) w332) ?_
    rintro u G3 ⟨rfl, r3, ev3⟩
    obtain ⟨jb3, k3⟩ := kw1.jb.pa r3 ev3
    have rd4' := k3.rd yA yR rd2
    obtain ⟨-, -, c2, c3⟩ := rd4 rd4'
    have lw4 := lwG3 G3 (kw1.rdx k3)
    simp -implicitDefEqProofs only [g0, g1, g6, g7, g8, g10, a2, a3, c2, c3, ↓hand3, q3a, q3b, lw3, lw4, Nat.zero_add, Bool.false_eq_true, eqA, eqD, go_sem]
    refine CW.mono (c_withinF e.j 0 2 _ (by omega) (by omega) (by omega)) ?_
    rintro v G' ⟨rfl, rfl⟩
    simp -implicitDefEqProofs only [g0, g1, g6, g7, g8, g10, a2, a3, c2, c3, ↓hand3, q3a, q3b, lw3, lw4, Nat.zero_add, Bool.false_eq_true, eqA, eqD, go_sem]
    refine CW.mono (jb3.ref (c_rPut (R := tg R B) jb3.j.r j (wiP e.j 0 2) w332) (c_rPut jb3.un j (wiP e.j 0 2) w332)) ?_
    rintro u G4 ⟨rfl, jb4, k4⟩
    have kw4 := kw1.put rw3.ok k3 k4 jb4
    have rd5 := k4.rd yA yR rd4'
    simp -implicitDefEqProofs only [g0, g1, g6, g7, g8, g10, a2, a3, c2, c3, ↓hand3, q3a, q3b, lw3, lw4, Nat.zero_add, Bool.false_eq_true, eqA, eqD, go_sem]
    exact ⟨_, _, kw4, rd5⟩
  have d1' : (kd == 1) = false := beq_eq_false_iff_ne.2 d1
  by_cases d2 : kd = 2
  · have d2' : (kd == 2) = true := beq_iff_eq.2 d2
    simp -implicitDefEqProofs only [g0, g1, g6, g7, g8, g10, d0', d1', d2', a2, a3, Nat.zero_add, Bool.false_eq_true, eqA, eqD, go_sem]
    refine CW.mono (c_withinF e.j 0 2 _ (by omega) (by omega) (by omega)) ?_
    rintro v G' ⟨rfl, rfl⟩
    have wb := wiP_bd (n := e.j) (lo := 0) (hi := 2) (by omega)
    generalize wiP e.j 0 2 = k at *
    obtain ⟨p, hp⟩ := Option.isSome_iff_exists.1 hs
    obtain ⟨-, s2⟩ := kw1.ki.shp j p hp
    have hk2 : k.toNat < (h.X p).2.length := by omega
    have gq : getM h j k = some (h.X p).2[k.toNat] := by
      unfold getM obM
      rw [hp]
      show (if 0 ≤ k then (h.X p).2[k.toNat]? else none) = _
      rw [if_pos wb.1, List.getElem?_eq_getElem hk2]
    have hmem : (h.X p).2[k.toNat] ∈ (h.X p).2 := List.getElem_mem hk2
    obtain ⟨u1, u2⟩ := (kw1.jb.j.a.ok.x j p hp).2.2 _ hmem
    have ow' := kw1.ki.liv j p hp _ hmem
    generalize (h.X p).2[k.toNat] = z at *
    obtain ⟨z, rfl⟩ := Int.eq_ofNat_of_zero_le (a := z) (by omega)
    simp -implicitDefEqProofs only [g0, g1, g6, g7, g8, g10, a2, a3, Nat.zero_add, Bool.false_eq_true, eqA, eqD, go_sem]
    refine CW.mono (c_Get kw1.jb.j.a j k) ?_
    rw [gq]
    rintro u G3 ⟨rfl, r3, ev3⟩
    obtain ⟨jb3, k3⟩ := kw1.jb.pa r3 ev3
    have rd3 := k3.rd yA yR rd2
    have kw3 := kw1.move k3 jb3 kw1.ki kw1.rw
    by_cases z7 : (7 : Int) < (z : Int)
    · have an : binA .and (.sc .int) (.int .u32 (z : Int)) (.int .u32 1) = some (.int .u32 ((z % 2 : Nat) : Int)) := andA (k := 1) (by omega) (by omega)
      by_cases zz : z % 2 = 0
      · have hz0 : (((z % 2 : Nat) : Int) == 0) = true := by rw [zz]; rfl
        have rwz : RW h (z : Int) := by
          have hid : idP (z : Int) = some ((z : Int) / 2) := by unfold idP; rw [if_neg (by omega)]
          exact ⟨⟨by omega, by omega⟩, _, hid, (ow' _ hid).resolve_left (by omega)⟩
        obtain ⟨G5, st5, kw5, rdk⟩ := kw3.store hi1' rwz
        simp -implicitDefEqProofs only [g0, g1, g6, g7, g8, g10, Option.getD_some, Option.isSome_some, z7, ↓an, hz0, i1a, i1b, st5, Nat.zero_add, Bool.false_eq_true, eqA, eqD, go_sem]
        exact ⟨_, _, kw5, rdk y yB _ rd3⟩
      · have hz0 : (((z % 2 : Nat) : Int) == 0) = false := beq_eq_false_iff_ne.2 (by omega)
        simp -implicitDefEqProofs only [g0, g1, g6, g7, g8, g10, Option.getD_some, Option.isSome_some, z7, ↓an, hz0, Nat.zero_add, Bool.false_eq_true, eqA, eqD, go_sem]
        exact ⟨_, _, kw3, rd3⟩
    · simp -implicitDefEqProofs only [g0, g1, g6, g7, g8, g10, Option.getD_some, Option.isSome_some, z7, Nat.zero_add, Bool.false_eq_true, eqA, eqD, go_sem]
      exact ⟨_, _, kw3, rd3⟩
  have d2' : (kd == 2) = false := beq_eq_false_iff_ne.2 d2
  by_cases d3 : kd = 3
  · have d3' : (kd == 3) = true := beq_iff_eq.2 d3
    obtain ⟨w3, lw3, w332, rw3, -⟩ := rd_root kw1.arr.rd kw1.len kw1.rw q34
    obtain ⟨-, t, ht, -⟩ := rw3
    simp -implicitDefEqProofs only [g0, g1, g6, g7, g8, g10, d0', d1', d2', d3', a2, a3, ↓hand3, q3a, q3b, lw3, Nat.zero_add, Bool.false_eq_true, eqA, eqD, go_sem]
    refine CW.mono (c_rID w332) ?_
    rw [ht]
    rintro v G' ⟨rfl, rfl⟩
    simp -implicitDefEqProofs only [g0, g1, g6, g7, g8, g10, Option.getD_some, Option.isSome_some, Bool.false_eq_true, eqA, eqD, go_sem]
    refine CW.mono (c_Swap kw1.jb.j.a j t) ?_
    rintro u G3 ⟨rfl, r3, ev3⟩
    obtain ⟨jb3, k3⟩ := kw1.jb.pa r3 ev3
    simp -implicitDefEqProofs only [g0, g1, g6, g7, g8, g10, Bool.false_eq_true, eqA, eqD, go_sem]
    refine CW.mono (jb3.ref (c_rSwap (R := tg R B) jb3.j.r j t) (c_rSwap jb3.un j t)) ?_
    rintro u G4 ⟨rfl, jb4, k4⟩
    simp -implicitDefEqProofs only [g0, g1, g6, g7, g8, g10, Bool.false_eq_true, eqA, eqD, go_sem]
    exact ⟨_, _, kw1.swap k3 k4 jb4, k4.rd yA yR (k3.rd yA yR rd2)⟩
  have d3' : (kd == 3) = false := beq_eq_false_iff_ne.2 d3
  simp -implicitDefEqProofs only [g0, g1, g6, g7, g8, g10, d0', d1', d2', d3', Bool.false_eq_true, eqA, eqD, go_sem]
  exact ⟨_, _, kw1, rd2⟩
end
end Go.Proofs.YtaihjlemofgokaaGreat.AA
