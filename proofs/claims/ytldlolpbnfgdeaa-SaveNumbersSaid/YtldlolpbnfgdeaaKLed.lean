/- The document's own: led. -/
import Derived.Test.YtldlolpbnfgdeaaKReach
import Derived.Test.YtldlolpbnfgdeaaKSaveP
namespace Go.Proofs.Ytldlolpbnfgdeaa
open Go Go.RowKit

theorem idO_le' {x a : Nat} (h : idO x = some a) (hx : x < 4294967296) : (a : Int) ≤ 4294967296 := by
  unfold idO at h
  split at h <;> cases h
  omega
theorem u32_beq' (x y : Nat) : ((x : Int) == (y : Int)) = decide (x = y) := by
  rw [Bool.eq_iff_iff]; simp; omega
section
variable {La Lb : List SObj} (fa : Fit La) (fb : Fit Lb)
include fa fb
set_option maxHeartbeats 1000000 in
set_option maxRecDepth 100000 in
theorem l_led {w : World} {p1 p2 : Nat} {F1 F2 : List Nat} (x y : Nat) (hx : x < 4294967296) (hy : y < 4294967296) (h1 : RRep w p1 La F1) (h2 : RRep w p2 Lb F2) (m : Nat) (G : List (Int × Int)) (hm : MapR w m i64v i64v G) (hG : ∀ p ∈ G, p.2 ≠ 0) :
    Calls Try.prog 58 #[.pointer (some ⟨p1, 0, none⟩), .int .u32 (x : Int), .pointer (some ⟨p2, 0, none⟩), .int .u32 (y : Int), .map (some m)] w fun e w' => e = .returned (.bool (ledP La Lb G x y)) ∧ w = w' := by
  have hbe := u32_beq' x y
  have hl1 := fa.len
  have hl2 := fb.len
  have hix := r_id x hx
  have hiy := r_id y hy
  unfold u32v at hix hiy
  cases hi : idO x with
  | none =>
    rw [hi] at hix
    unfold idVal at hix
    cases hj : idO y with
    | none =>
      rw [hj] at hiy
      unfold idVal at hiy
      have hled : ledP La Lb G x y = decide (x = y) := by unfold ledP; rw [show objP La x = none by unfold objP; rw [hi], show objP Lb y = none by unfold objP; rw [hj]]
      rw [hled]
      clear hm hled
      go_enter Try.func58, Try.ntmps58
      go_wp2_with (first | (go_at_call_of 25 (x : Int); refine (hix _).mono ?_; rintro e w' ⟨rfl, rfl⟩) | (go_at_call_of 25 (y : Int); refine (hiy _).mono ?_; rintro e w' ⟨rfl, rfl⟩) | (go_at_call_of 59 (a : Int); refine hcx.mono ?_; rintro e w' ⟨rfl, rfl⟩) | (go_at_call_of 59 (b : Int); refine hcy.mono ?_; rintro e w' ⟨rfl, rfl⟩))
      all_goals (go_ret; exact ⟨rfl, rfl⟩)
    | some b =>
      rw [hj] at hiy
      unfold idVal at hiy
      have hcy := r_class (b : Int) h2 (by omega) (idO_le' hj hy) (by omega)
      cases hob : getO Lb (b : Int) with
      | none =>
        rw [show clsO Lb b = -1 by unfold clsO; rw [hob]] at hcy
        have hled : ledP La Lb G x y = decide (x = y) := by unfold ledP; rw [show objP La x = none by unfold objP; rw [hi], show objP Lb y = none by unfold objP; rw [hj]; simp [hob]]
        rw [hled]
        clear hm hled
        go_enter Try.func58, Try.ntmps58
        go_wp2_with (first | (go_at_call_of 25 (x : Int); refine (hix _).mono ?_; rintro e w' ⟨rfl, rfl⟩) | (go_at_call_of 25 (y : Int); refine (hiy _).mono ?_; rintro e w' ⟨rfl, rfl⟩) | (go_at_call_of 59 (a : Int); refine hcx.mono ?_; rintro e w' ⟨rfl, rfl⟩) | (go_at_call_of 59 (b : Int); refine hcy.mono ?_; rintro e w' ⟨rfl, rfl⟩))
        all_goals (go_ret; exact ⟨rfl, rfl⟩)
      | some o2 =>
        rw [show clsO Lb b = o2.1 by unfold clsO; rw [hob]] at hcy
        have ho2 := fb.cls o2 (List.mem_of_getElem? (getO_some hob).2.2)
        have hled : ledP La Lb G x y = false := by unfold ledP; rw [show objP La x = none by unfold objP; rw [hi], show objP Lb y = some (b : Int) by unfold objP; rw [hj]; simp [hob]]
        rw [hled]
        clear hm hled
        go_enter Try.func58, Try.ntmps58
        go_wp2_with (first | (go_at_call_of 25 (x : Int); refine (hix _).mono ?_; rintro e w' ⟨rfl, rfl⟩) | (go_at_call_of 25 (y : Int); refine (hiy _).mono ?_; rintro e w' ⟨rfl, rfl⟩) | (go_at_call_of 59 (a : Int); refine hcx.mono ?_; rintro e w' ⟨rfl, rfl⟩) | (go_at_call_of 59 (b : Int); refine hcy.mono ?_; rintro e w' ⟨rfl, rfl⟩))
        all_goals (go_ret; exact ⟨rfl, rfl⟩)
  | some a =>
    rw [hi] at hix
    unfold idVal at hix
    have hcx := r_class (a : Int) h1 (by omega) (idO_le' hi hx) (by omega)
    cases hoa : getO La (a : Int) with
    | none =>
      rw [show clsO La a = -1 by unfold clsO; rw [hoa]] at hcx
      cases hj : idO y with
      | none =>
        rw [hj] at hiy
        unfold idVal at hiy
        have hled : ledP La Lb G x y = decide (x = y) := by unfold ledP; rw [show objP La x = none by unfold objP; rw [hi]; simp [hoa], show objP Lb y = none by unfold objP; rw [hj]]
        rw [hled]
        clear hm hled
        go_enter Try.func58, Try.ntmps58
        go_wp2_with (first | (go_at_call_of 25 (x : Int); refine (hix _).mono ?_; rintro e w' ⟨rfl, rfl⟩) | (go_at_call_of 25 (y : Int); refine (hiy _).mono ?_; rintro e w' ⟨rfl, rfl⟩) | (go_at_call_of 59 (a : Int); refine hcx.mono ?_; rintro e w' ⟨rfl, rfl⟩) | (go_at_call_of 59 (b : Int); refine hcy.mono ?_; rintro e w' ⟨rfl, rfl⟩))
        all_goals (go_ret; exact ⟨rfl, rfl⟩)
      | some b =>
        rw [hj] at hiy
        unfold idVal at hiy
        have hcy := r_class (b : Int) h2 (by omega) (idO_le' hj hy) (by omega)
        cases hob : getO Lb (b : Int) with
        | none =>
          rw [show clsO Lb b = -1 by unfold clsO; rw [hob]] at hcy
          have hled : ledP La Lb G x y = decide (x = y) := by unfold ledP; rw [show objP La x = none by unfold objP; rw [hi]; simp [hoa], show objP Lb y = none by unfold objP; rw [hj]; simp [hob]]
          rw [hled]
          clear hm hled
          go_enter Try.func58, Try.ntmps58
          go_wp2_with (first | (go_at_call_of 25 (x : Int); refine (hix _).mono ?_; rintro e w' ⟨rfl, rfl⟩) | (go_at_call_of 25 (y : Int); refine (hiy _).mono ?_; rintro e w' ⟨rfl, rfl⟩) | (go_at_call_of 59 (a : Int); refine hcx.mono ?_; rintro e w' ⟨rfl, rfl⟩) | (go_at_call_of 59 (b : Int); refine hcy.mono ?_; rintro e w' ⟨rfl, rfl⟩))
          all_goals (go_ret; exact ⟨rfl, rfl⟩)
        | some o2 =>
          rw [show clsO Lb b = o2.1 by unfold clsO; rw [hob]] at hcy
          have ho2 := fb.cls o2 (List.mem_of_getElem? (getO_some hob).2.2)
          have hled : ledP La Lb G x y = false := by unfold ledP; rw [show objP La x = none by unfold objP; rw [hi]; simp [hoa], show objP Lb y = some (b : Int) by unfold objP; rw [hj]; simp [hob]]
          rw [hled]
          clear hm hled
          go_enter Try.func58, Try.ntmps58
          go_wp2_with (first | (go_at_call_of 25 (x : Int); refine (hix _).mono ?_; rintro e w' ⟨rfl, rfl⟩) | (go_at_call_of 25 (y : Int); refine (hiy _).mono ?_; rintro e w' ⟨rfl, rfl⟩) | (go_at_call_of 59 (a : Int); refine hcx.mono ?_; rintro e w' ⟨rfl, rfl⟩) | (go_at_call_of 59 (b : Int); refine hcy.mono ?_; rintro e w' ⟨rfl, rfl⟩))
          all_goals (go_ret; exact ⟨rfl, rfl⟩)
    | some o1 =>
      rw [show clsO La a = o1.1 by unfold clsO; rw [hoa]] at hcx
      have ho1 := fa.cls o1 (List.mem_of_getElem? (getO_some hoa).2.2)
      cases hj : idO y with
      | none =>
        rw [hj] at hiy
        unfold idVal at hiy
        have hled : ledP La Lb G x y = false := by unfold ledP; rw [show objP La x = some (a : Int) by unfold objP; rw [hi]; simp [hoa], show objP Lb y = none by unfold objP; rw [hj]]
        rw [hled]
        clear hm hled
        go_enter Try.func58, Try.ntmps58
        go_wp2_with (first | (go_at_call_of 25 (x : Int); refine (hix _).mono ?_; rintro e w' ⟨rfl, rfl⟩) | (go_at_call_of 25 (y : Int); refine (hiy _).mono ?_; rintro e w' ⟨rfl, rfl⟩) | (go_at_call_of 59 (a : Int); refine hcx.mono ?_; rintro e w' ⟨rfl, rfl⟩) | (go_at_call_of 59 (b : Int); refine hcy.mono ?_; rintro e w' ⟨rfl, rfl⟩))
        all_goals (go_ret; exact ⟨rfl, rfl⟩)
      | some b =>
        rw [hj] at hiy
        unfold idVal at hiy
        have hcy := r_class (b : Int) h2 (by omega) (idO_le' hj hy) (by omega)
        cases hob : getO Lb (b : Int) with
        | none =>
          rw [show clsO Lb b = -1 by unfold clsO; rw [hob]] at hcy
          have hled : ledP La Lb G x y = false := by unfold ledP; rw [show objP La x = some (a : Int) by unfold objP; rw [hi]; simp [hoa], show objP Lb y = none by unfold objP; rw [hj]; simp [hob]]
          rw [hled]
          clear hm hled
          go_enter Try.func58, Try.ntmps58
          go_wp2_with (first | (go_at_call_of 25 (x : Int); refine (hix _).mono ?_; rintro e w' ⟨rfl, rfl⟩) | (go_at_call_of 25 (y : Int); refine (hiy _).mono ?_; rintro e w' ⟨rfl, rfl⟩) | (go_at_call_of 59 (a : Int); refine hcx.mono ?_; rintro e w' ⟨rfl, rfl⟩) | (go_at_call_of 59 (b : Int); refine hcy.mono ?_; rintro e w' ⟨rfl, rfl⟩))
          all_goals (go_ret; exact ⟨rfl, rfl⟩)
        | some o2 =>
          rw [show clsO Lb b = o2.1 by unfold clsO; rw [hob]] at hcy
          have ho2 := fb.cls o2 (List.mem_of_getElem? (getO_some hob).2.2)
          have hlk := hm.lookup (P := Try.prog) (keyInt Try.underlying3) Try.underlying42 (z := .int .i64 0) (fun _ => by kernel_rfl) (a : Int)
          have hb4 : (4 : Int) ≤ b := by have := (getO_some hob).1; omega
          have hled : ledP La Lb G x y = decide (get? G (a : Int) = some (b : Int)) := by unfold ledP; rw [show objP La x = some (a : Int) by unfold objP; rw [hi]; simp [hoa], show objP Lb y = some (b : Int) by unfold objP; rw [hj]; simp [hob]]
          rw [hled]
          cases hg : get? G (a : Int) with
          | none =>
            rw [hg] at hlk
            simp only [i64v] at hlk
            have hne : ((0 : Int) == (b : Int)) = false := by simp; omega
            clear hg hm hled
            go_enter Try.func58, Try.ntmps58
            go_wp2_with (first | (go_at_call_of 25 (x : Int); refine (hix _).mono ?_; rintro e w' ⟨rfl, rfl⟩) | (go_at_call_of 25 (y : Int); refine (hiy _).mono ?_; rintro e w' ⟨rfl, rfl⟩) | (go_at_call_of 59 (a : Int); refine hcx.mono ?_; rintro e w' ⟨rfl, rfl⟩) | (go_at_call_of 59 (b : Int); refine hcy.mono ?_; rintro e w' ⟨rfl, rfl⟩))
            all_goals (go_ret; exact ⟨by simp, rfl⟩)
          | some c =>
            rw [hg] at hlk
            simp only [i64v] at hlk
            clear hg hm hled
            by_cases hcb : c = (b : Int)
            · subst hcb
              rw [show decide ((some (b : Int) : Option Int) = some (b : Int)) = true by simp]
              go_enter Try.func58, Try.ntmps58
              go_wp2_with (first | (go_at_call_of 25 (x : Int); refine (hix _).mono ?_; rintro e w' ⟨rfl, rfl⟩) | (go_at_call_of 25 (y : Int); refine (hiy _).mono ?_; rintro e w' ⟨rfl, rfl⟩) | (go_at_call_of 59 (a : Int); refine hcx.mono ?_; rintro e w' ⟨rfl, rfl⟩) | (go_at_call_of 59 (b : Int); refine hcy.mono ?_; rintro e w' ⟨rfl, rfl⟩))
              all_goals (go_ret; exact ⟨rfl, rfl⟩)
            · rw [show decide ((some c : Option Int) = some (b : Int)) = false by simp [hcb]]
              have hne : ((c : Int) == (b : Int)) = false := by simp [hcb]
              go_enter Try.func58, Try.ntmps58
              go_wp2_with (first | (go_at_call_of 25 (x : Int); refine (hix _).mono ?_; rintro e w' ⟨rfl, rfl⟩) | (go_at_call_of 25 (y : Int); refine (hiy _).mono ?_; rintro e w' ⟨rfl, rfl⟩) | (go_at_call_of 59 (a : Int); refine hcx.mono ?_; rintro e w' ⟨rfl, rfl⟩) | (go_at_call_of 59 (b : Int); refine hcy.mono ?_; rintro e w' ⟨rfl, rfl⟩))
              all_goals (go_ret; exact ⟨rfl, rfl⟩)
end
end Go.Proofs.Ytldlolpbnfgdeaa
