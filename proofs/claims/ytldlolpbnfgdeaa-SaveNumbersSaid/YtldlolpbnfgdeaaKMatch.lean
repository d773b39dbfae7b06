/- save.match.same: side by side. -/
import Derived.Test.YtldlolpbnfgdeaaKSaveP
import Derived.Test.YtldlolpbnfgdeaaKPair
namespace Go.Proofs.Ytldlolpbnfgdeaa
open Go Go.RowKit

structure MatchR (w : World) (q p1 p2 : Nat) (La Lb : List SObj) (F1 F2 : List Nat) (mm mt mk : Nat) (M : List (Int × Int)) : Prop where
  s1 : SRep w p1 La F1
  s2 : SRep w p2 Lb F2
  blk : w.heap[q]? = some (.cells #[.iface 25 (.pointer (some ⟨p1, 0, none⟩)), .iface 25 (.pointer (some ⟨p2, 0, none⟩)), .map (some mm), .map (some mt), .map (some mk)] 99 (0, 0))
  met : MapR w mm pairv boolv (M.map fun p => (p, true))
  there : MapR w mt i64v i64v M
  back : MapR w mk i64v i64v (M.map fun p => (p.2, p.1))
  d1 : ∀ b ∈ F1, b ∉ [mm, mt, mk]
  d2 : ∀ b ∈ F2, b ∉ [mm, mt, mk]
  dq : q ∉ [mm, mt, mk] ∧ mm ≠ mt ∧ mm ≠ mk ∧ mt ≠ mk

def SamePost (La Lb : List SObj) (n x y : Nat) (M : List (Int × Int)) (q p1 p2 : Nat) (F1 F2 : List Nat) (mm mt mk : Nat) (w : World) (e : Ending) (w' : World) : Prop :=
  (match sameP La Lb n x y M with
    | some M' => e = .returned (.bool true) ∧ MatchR w' q p1 p2 La Lb F1 F2 mm mt mk M'
    | none => e = .returned (.bool false)) ∧ Mod [mm, mt, mk] w w'

theorem MatchR.cells {w : World} {q p1 p2 : Nat} {La Lb : List SObj} {F1 F2 : List Nat} {mm mt mk : Nat} {M : List (Int × Int)} (h : MatchR w q p1 p2 La Lb F1 F2 mm mt mk M) :
    w.cell? ⟨q, 0, none⟩ = some (.iface 25 (.pointer (some ⟨p1, 0, none⟩))) ∧ w.cell? ⟨q, 1, none⟩ = some (.iface 25 (.pointer (some ⟨p2, 0, none⟩))) ∧
    w.cell? ⟨q, 2, none⟩ = some (.map (some mm)) ∧ w.cell? ⟨q, 3, none⟩ = some (.map (some mt)) ∧ w.cell? ⟨q, 4, none⟩ = some (.map (some mk)) := by
  refine ⟨?_, ?_, ?_, ?_, ?_⟩ <;> (rw [cell_of_blk h.blk]; rfl)
theorem idO_le {x a : Nat} (h : idO x = some a) (hx : x < 4294967296) : (a : Int) ≤ 4294967296 := by
  unfold idO at h
  split at h <;> cases h
  omega
theorem u32_beq (x y : Nat) : ((x : Int) == (y : Int)) = decide (x = y) := by
  rw [Bool.eq_iff_iff]; simp; omega

theorem MatchR.drew {w : World} {q p1 p2 : Nat} {La Lb : List SObj} {F1 F2 : List Nat} {mm mt mk : Nat} {M : List (Int × Int)} (h : MatchR w q p1 p2 La Lb F1 F2 mm mt mk M) (n : Nat) : MatchR (w.drewN n) q p1 p2 La Lb F1 F2 mm mt mk M :=
  ⟨h.s1.frame fun _ _ => rfl, h.s2.frame fun _ _ => rfl, h.blk, h.met, h.there, h.back, h.d1, h.d2, h.dq⟩
theorem drewN_mod (w : World) (n : Nat) : Mod [] w (w.drewN n) := Mod.of_below ⟨rfl, rfl, rfl, Nat.le_refl _, fun _ _ => rfl⟩
theorem foldM'_take (f : List (Int × Int) → Nat × Nat → Option (List (Int × Int))) : ∀ (l : List (Nat × Nat)) (M : List (Int × Int)) (k : Nat) (p : Nat × Nat), l[k]? = some p →
    foldM' f (l.take (k + 1)) M = (foldM' f (l.take k) M).bind fun M' => f M' p
  | [], _, _, _, h => by simp at h
  | a :: l, M, 0, p, h => by
    simp at h; subst h
    simp only [List.take_succ_cons, List.take_zero, foldM', Option.bind_some]
    cases f M a <;> rfl
  | a :: l, M, k + 1, p, h => by
    simp only [List.take_succ_cons, foldM']
    cases f M a with
    | none => rfl
    | some M1 => exact foldM'_take f l M1 k p (by simpa using h)
theorem foldM'_none (f : List (Int × Int) → Nat × Nat → Option (List (Int × Int))) : ∀ (l : List (Nat × Nat)) (M : List (Int × Int)) (k : Nat), foldM' f (l.take k) M = none → foldM' f l M = none
  | [], M, k, h => by simpa using h
  | a :: l, M, 0, h => by simp [foldM'] at h
  | a :: l, M, k + 1, h => by
    simp only [List.take_succ_cons, foldM'] at h ⊢
    cases hf : f M a with
    | none => rfl
    | some M1 => rw [hf] at h; exact foldM'_none f l M1 k h
theorem foldM'_pre (f : List (Int × Int) → Nat × Nat → Option (List (Int × Int))) (P : List (Int × Int) → Prop) (hf : ∀ M p M', P M → f M p = some M' → P M') : ∀ (l : List (Nat × Nat)) (M M' : List (Int × Int)), P M → foldM' f l M = some M' → P M'
  | [], M, M', h, hM => by simp [foldM'] at hM; subst hM; exact h
  | a :: l, M, M', h, hM => by
    obtain ⟨M1, h1, h2⟩ := foldM'_some _ _ _ _ _ hM
    exact foldM'_pre f P hf l M1 M' (hf M a M1 h h1) h2

section
variable {La Lb : List SObj} (fa : Fit La) (fb : Fit Lb)
include fa fb
set_option maxHeartbeats 1000000 in
set_option maxRecDepth 100000 in
/-- Where one of the two is no object. -/
theorem same_plain (n x y : Nat) (q p1 p2 : Nat) (F1 F2 : List Nat) (mm mt mk : Nat) (M : List (Int × Int)) (w : World) (hx : x < 4294967296) (hy : y < 4294967296) (h : MatchR w q p1 p2 La Lb F1 F2 mm mt mk M) (ho : objP La x = none ∨ objP Lb y = none) :
    Calls Try.prog 57 #[.pointer (some ⟨q, 0, none⟩), .int .u32 (x : Int), .int .u32 (y : Int)] w fun e w' => e = .returned (.bool (match objP La x, objP Lb y with | none, none => decide (x = y) | _, _ => false)) ∧ w = w' := by
  obtain ⟨hq0, hq1, hq2, hq3, hq4⟩ := h.cells
  have hmc1 := fun w => m_class ⟨p1, 0, none⟩ w
  have hmc2 := fun w => m_class ⟨p2, 0, none⟩ w
  have hbe := u32_beq x y
  have hl1 := fa.len
  have hl2 := fb.len
  have hix := w_id x hx
  have hiy := w_id y hy
  unfold u32v at hix hiy
  cases hi : idO x with
  | none =>
    rw [show objP La x = none by unfold objP; rw [hi]] at ho ⊢
    rw [hi] at hix
    unfold idVal at hix
    cases hj : idO y with
    | none =>
      rw [show objP Lb y = none by unfold objP; rw [hj]]
      rw [hj] at hiy
      unfold idVal at hiy
      clear ho h
      go_enter Try.func57, Try.ntmps57
      go_wp2_with (first | (go_at_call_of 87 (x : Int); refine (hix _).mono ?_; rintro e w' ⟨rfl, rfl⟩) | (go_at_call_of 87 (y : Int); refine (hiy _).mono ?_; rintro e w' ⟨rfl, rfl⟩) | (go_at_call_of 26 (Value.pointer (some ⟨p1, 0, none⟩)); refine hcx.mono ?_; rintro e w' ⟨rfl, rfl⟩) | (go_at_call_of 26 (Value.pointer (some ⟨p2, 0, none⟩)); refine hcy.mono ?_; rintro e w' ⟨rfl, rfl⟩))
      all_goals (go_ret; exact ⟨rfl, rfl⟩)
    | some b =>
      rw [hj] at hiy
      unfold idVal at hiy
      have hcy := s_class (b : Int) h.s2 (by omega) (idO_le hj hy) (by omega)
      cases hob : getO Lb (b : Int) with
      | none =>
        rw [show objP Lb y = none by unfold objP; rw [hj]; simp [hob]]
        rw [show clsO Lb b = -1 by unfold clsO; rw [hob]] at hcy
        clear ho h
        go_enter Try.func57, Try.ntmps57
        go_wp2_with (first | (go_at_call_of 87 (x : Int); refine (hix _).mono ?_; rintro e w' ⟨rfl, rfl⟩) | (go_at_call_of 87 (y : Int); refine (hiy _).mono ?_; rintro e w' ⟨rfl, rfl⟩) | (go_at_call_of 26 (Value.pointer (some ⟨p1, 0, none⟩)); refine hcx.mono ?_; rintro e w' ⟨rfl, rfl⟩) | (go_at_call_of 26 (Value.pointer (some ⟨p2, 0, none⟩)); refine hcy.mono ?_; rintro e w' ⟨rfl, rfl⟩))
        all_goals (go_ret; exact ⟨rfl, rfl⟩)
      | some o =>
        rw [show objP Lb y = some (b : Int) by unfold objP; rw [hj]; simp [hob]]
        rw [show clsO Lb b = o.1 by unfold clsO; rw [hob]] at hcy
        have ho0 := fb.cls o (List.mem_of_getElem? (getO_some hob).2.2)
        clear ho h
        go_enter Try.func57, Try.ntmps57
        go_wp2_with (first | (go_at_call_of 87 (x : Int); refine (hix _).mono ?_; rintro e w' ⟨rfl, rfl⟩) | (go_at_call_of 87 (y : Int); refine (hiy _).mono ?_; rintro e w' ⟨rfl, rfl⟩) | (go_at_call_of 26 (Value.pointer (some ⟨p1, 0, none⟩)); refine hcx.mono ?_; rintro e w' ⟨rfl, rfl⟩) | (go_at_call_of 26 (Value.pointer (some ⟨p2, 0, none⟩)); refine hcy.mono ?_; rintro e w' ⟨rfl, rfl⟩))
        all_goals (go_ret; exact ⟨rfl, rfl⟩)
  | some a =>
    rw [hi] at hix
    unfold idVal at hix
    have hcx := s_class (a : Int) h.s1 (by omega) (idO_le hi hx) (by omega)
    cases hoa : getO La (a : Int) with
    | none =>
      rw [show objP La x = none by unfold objP; rw [hi]; simp [hoa]] at ho ⊢
      rw [show clsO La a = -1 by unfold clsO; rw [hoa]] at hcx
      cases hj : idO y with
      | none =>
        rw [show objP Lb y = none by unfold objP; rw [hj]]
        rw [hj] at hiy
        unfold idVal at hiy
        clear ho h
        go_enter Try.func57, Try.ntmps57
        go_wp2_with (first | (go_at_call_of 87 (x : Int); refine (hix _).mono ?_; rintro e w' ⟨rfl, rfl⟩) | (go_at_call_of 87 (y : Int); refine (hiy _).mono ?_; rintro e w' ⟨rfl, rfl⟩) | (go_at_call_of 26 (Value.pointer (some ⟨p1, 0, none⟩)); refine hcx.mono ?_; rintro e w' ⟨rfl, rfl⟩) | (go_at_call_of 26 (Value.pointer (some ⟨p2, 0, none⟩)); refine hcy.mono ?_; rintro e w' ⟨rfl, rfl⟩))
        all_goals (go_ret; exact ⟨rfl, rfl⟩)
      | some b =>
        rw [hj] at hiy
        unfold idVal at hiy
        have hcy := s_class (b : Int) h.s2 (by omega) (idO_le hj hy) (by omega)
        cases hob : getO Lb (b : Int) with
        | none =>
          rw [show objP Lb y = none by unfold objP; rw [hj]; simp [hob]]
          rw [show clsO Lb b = -1 by unfold clsO; rw [hob]] at hcy
          clear ho h
          go_enter Try.func57, Try.ntmps57
          go_wp2_with (first | (go_at_call_of 87 (x : Int); refine (hix _).mono ?_; rintro e w' ⟨rfl, rfl⟩) | (go_at_call_of 87 (y : Int); refine (hiy _).mono ?_; rintro e w' ⟨rfl, rfl⟩) | (go_at_call_of 26 (Value.pointer (some ⟨p1, 0, none⟩)); refine hcx.mono ?_; rintro e w' ⟨rfl, rfl⟩) | (go_at_call_of 26 (Value.pointer (some ⟨p2, 0, none⟩)); refine hcy.mono ?_; rintro e w' ⟨rfl, rfl⟩))
          all_goals (go_ret; exact ⟨rfl, rfl⟩)
        | some o =>
          rw [show objP Lb y = some (b : Int) by unfold objP; rw [hj]; simp [hob]]
          rw [show clsO Lb b = o.1 by unfold clsO; rw [hob]] at hcy
          have ho0 := fb.cls o (List.mem_of_getElem? (getO_some hob).2.2)
          clear ho h
          go_enter Try.func57, Try.ntmps57
          go_wp2_with (first | (go_at_call_of 87 (x : Int); refine (hix _).mono ?_; rintro e w' ⟨rfl, rfl⟩) | (go_at_call_of 87 (y : Int); refine (hiy _).mono ?_; rintro e w' ⟨rfl, rfl⟩) | (go_at_call_of 26 (Value.pointer (some ⟨p1, 0, none⟩)); refine hcx.mono ?_; rintro e w' ⟨rfl, rfl⟩) | (go_at_call_of 26 (Value.pointer (some ⟨p2, 0, none⟩)); refine hcy.mono ?_; rintro e w' ⟨rfl, rfl⟩))
          all_goals (go_ret; exact ⟨rfl, rfl⟩)
    | some o1 =>
      rw [show objP La x = some (a : Int) by unfold objP; rw [hi]; simp [hoa]] at ho ⊢
      rw [show clsO La a = o1.1 by unfold clsO; rw [hoa]] at hcx
      have ho1 := fa.cls o1 (List.mem_of_getElem? (getO_some hoa).2.2)
      cases hj : idO y with
      | none =>
        rw [show objP Lb y = none by unfold objP; rw [hj]]
        rw [hj] at hiy
        unfold idVal at hiy
        clear ho h
        go_enter Try.func57, Try.ntmps57
        go_wp2_with (first | (go_at_call_of 87 (x : Int); refine (hix _).mono ?_; rintro e w' ⟨rfl, rfl⟩) | (go_at_call_of 87 (y : Int); refine (hiy _).mono ?_; rintro e w' ⟨rfl, rfl⟩) | (go_at_call_of 26 (Value.pointer (some ⟨p1, 0, none⟩)); refine hcx.mono ?_; rintro e w' ⟨rfl, rfl⟩) | (go_at_call_of 26 (Value.pointer (some ⟨p2, 0, none⟩)); refine hcy.mono ?_; rintro e w' ⟨rfl, rfl⟩))
        all_goals (go_ret; exact ⟨rfl, rfl⟩)
      | some b =>
        rw [hj] at hiy
        unfold idVal at hiy
        have hcy := s_class (b : Int) h.s2 (by omega) (idO_le hj hy) (by omega)
        cases hob : getO Lb (b : Int) with
        | none =>
          rw [show objP Lb y = none by unfold objP; rw [hj]; simp [hob]]
          rw [show clsO Lb b = -1 by unfold clsO; rw [hob]] at hcy
          clear ho h
          go_enter Try.func57, Try.ntmps57
          go_wp2_with (first | (go_at_call_of 87 (x : Int); refine (hix _).mono ?_; rintro e w' ⟨rfl, rfl⟩) | (go_at_call_of 87 (y : Int); refine (hiy _).mono ?_; rintro e w' ⟨rfl, rfl⟩) | (go_at_call_of 26 (Value.pointer (some ⟨p1, 0, none⟩)); refine hcx.mono ?_; rintro e w' ⟨rfl, rfl⟩) | (go_at_call_of 26 (Value.pointer (some ⟨p2, 0, none⟩)); refine hcy.mono ?_; rintro e w' ⟨rfl, rfl⟩))
          all_goals (go_ret; exact ⟨rfl, rfl⟩)
        | some o =>
          rw [show objP Lb y = some (b : Int) by unfold objP; rw [hj]; simp [hob]] at ho
          rcases ho with ho | ho <;> cases ho
end
end Go.Proofs.Ytldlolpbnfgdeaa
