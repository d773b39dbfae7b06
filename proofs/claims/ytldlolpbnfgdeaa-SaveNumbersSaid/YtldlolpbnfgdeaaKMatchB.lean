/- save.match.same: the whole. -/
import Derived.Test.YtldlolpbnfgdeaaKMatchA
namespace Go.Proofs.Ytldlolpbnfgdeaa
open Go Go.RowKit

section
variable {La Lb : List SObj} (fa : Fit La) (fb : Fit Lb)
include fa fb
set_option maxHeartbeats 2000000 in
set_option maxRecDepth 100000 in
theorem same_any (n : Nat) : ∀ (x y : Nat) (q p1 p2 : Nat) (F1 F2 : List Nat) (mm mt mk : Nat) (M : List (Int × Int)) (w : World), x < 4294967296 → y < 4294967296 → MatchR w q p1 p2 La Lb F1 F2 mm mt mk M → Wf La Lb M → La.length - M.length < n →
    Calls Try.prog 57 #[.pointer (some ⟨q, 0, none⟩), .int .u32 (x : Int), .int .u32 (y : Int)] w fun e w' => SamePost La Lb n x y M q p1 p2 F1 F2 mm mt mk w e w' := by
  induction n with
  | zero => intro x y q p1 p2 F1 F2 mm mt mk M w hx hy h hwf hn; omega
  | succ n ih =>
    intro x y q p1 p2 F1 F2 mm mt mk M w hx hy h hwf hn
    cases hoa : objP La x with
    | none =>
      refine (same_plain fa fb n x y q p1 p2 F1 F2 mm mt mk M w hx hy h (.inl hoa)).mono ?_
      rintro e w' ⟨rfl, rfl⟩
      refine ⟨?_, Mod.refl _ _⟩
      unfold sameP
      cases hob : objP Lb y <;> simp only [hoa]
      by_cases hxy : x = y
      · simp only [hxy, if_true, decide_true]; exact ⟨trivial, h⟩
      · simp only [hxy, if_false, decide_false]
    | some a =>
      cases hob : objP Lb y with
      | none =>
        refine (same_plain fa fb n x y q p1 p2 F1 F2 mm mt mk M w hx hy h (.inr hob)).mono ?_
        rintro e w' ⟨rfl, rfl⟩
        refine ⟨?_, Mod.refl _ _⟩
        unfold sameP
        simp only [hoa, hob]
      | some b =>
        obtain ⟨hsa, a', hix', rfl⟩ := objP_some hoa
        obtain ⟨hsb, b', hiy', rfl⟩ := objP_some hob
        obtain ⟨o1, ho1⟩ := Option.isSome_iff_exists.1 hsa
        obtain ⟨o2, ho2⟩ := Option.isSome_iff_exists.1 hsb
        obtain ⟨hq0, hq1, hq2, hq3, hq4⟩ := h.cells
        have hmc1 := fun w => m_class ⟨p1, 0, none⟩ w
        have hmc2 := fun w => m_class ⟨p2, 0, none⟩ w
        have hmf1 := fun w => m_fields ⟨p1, 0, none⟩ w
        have hmf2 := fun w => m_fields ⟨p2, 0, none⟩ w
        have hmg1 := fun w => m_get ⟨p1, 0, none⟩ w
        have hmg2 := fun w => m_get ⟨p2, 0, none⟩ w
        have hl1 := fa.len
        have hl2 := fb.len
        have hale := idO_le hix' hx
        have hble := idO_le hiy' hy
        have hix := w_id x hx
        have hiy := w_id y hy
        rw [hix'] at hix
        rw [hiy'] at hiy
        unfold u32v idVal at hix hiy
        have hcxd := fun k => s_class (w := w.drewN k) (a' : Int) (h.drew k).s1 (by omega) hale (by omega)
        have hcyd := fun k => s_class (w := w.drewN k) (b' : Int) (h.drew k).s2 (by omega) hble (by omega)
        have hfyd := fun k => s_fields (w := w.drewN k) (b' : Int) (h.drew k).s2 (by omega) hble (by omega)
        rw [show clsO La a' = o1.1 by unfold clsO; rw [ho1]] at hcxd
        rw [show clsO Lb b' = o2.1 by unfold clsO; rw [ho2]] at hcyd
        rw [show lenO Lb b' = o2.2.length by unfold lenO; rw [ho2]] at hfyd
        have hcx := s_class (a' : Int) h.s1 (by omega) hale (by omega)
        have hcy := s_class (b' : Int) h.s2 (by omega) hble (by omega)
        have hfx := s_fields (a' : Int) h.s1 (by omega) hale (by omega)
        rw [show clsO La a' = o1.1 by unfold clsO; rw [ho1]] at hcx
        rw [show clsO Lb b' = o2.1 by unfold clsO; rw [ho2]] at hcy
        rw [show lenO La a' = o1.2.length by unfold lenO; rw [ho1]] at hfx
        have hm1 := List.mem_of_getElem? (getO_some ho1).2.2
        have hm2 := List.mem_of_getElem? (getO_some ho2).2.2
        have hp1 := fa.cls o1 hm1
        have hp2 := fb.cls o2 hm2
        have hw1 := fa.wd o1 hm1
        have hw2 := fb.wd o2 hm2
        have hlm := h.met.lookup (P := Try.prog) key_pair Try.underlying97 (z := .bool false) (fun _ => by kernel_rfl) ((a' : Int), (b' : Int))
        have hlt := h.there.lookup_ok (P := Try.prog) (keyInt Try.underlying3) Try.underlying42 (z := .int .i64 0) (fun _ => by kernel_rfl) (a' : Int)
        have hlk := h.back.lookup_ok (P := Try.prog) (keyInt Try.underlying3) Try.underlying42 (z := .int .i64 0) (fun _ => by kernel_rfl) (b' : Int)
        rw [get?_mapConst] at hlm
        have hsm : sameP La Lb (n + 1) x y M = if ((a' : Int), (b' : Int)) ∈ M then some M else if (a' : Int) ∈ M.map (·.1) ∨ (b' : Int) ∈ M.map (·.2) ∨ shape La Lb a' b' = false then none
            else foldM' (fun M p => sameP La Lb n p.1 p.2 M) ((kids La a').zip (kids Lb b')) (M ++ [((a' : Int), (b' : Int))]) := by
          conv => lhs; unfold sameP
          simp only [hoa, hob]
        have hsh : shape La Lb a' b' = (decide (o1.1 = o2.1) && decide (o1.2.length = o2.2.length)) := by unfold shape; rw [ho1, ho2]
        have hk1 : kids La a' = o1.2 := by unfold kids; rw [ho1]
        have hk2 : kids Lb b' = o2.2 := by unfold kids; rw [ho2]
        by_cases hm : ((a' : Int), (b' : Int)) ∈ M
        · rw [if_pos hm] at hlm hsm
          simp only [pairv, boolv] at hlm
          have HSM := Lib.hid hsm
          have HH := Lib.hid h
          clear hsm h hsh hk1 hk2 hlt hlk hoa hob ho1 ho2 hix' hiy' hcxd hcyd hfyd hfx
          go_enter Try.func57, Try.ntmps57
          go_wp2_with (first | (go_at_call_of 87 (x : Int); refine (hix _).mono ?_; rintro e w' ⟨rfl, rfl⟩) | (go_at_call_of 87 (y : Int); refine (hiy _).mono ?_; rintro e w' ⟨rfl, rfl⟩) | (go_at_call_of 26 (Value.pointer (some ⟨p1, 0, none⟩)); refine hcx.mono ?_; rintro e w' ⟨rfl, rfl⟩) | (go_at_call_of 26 (Value.pointer (some ⟨p2, 0, none⟩)); refine hcy.mono ?_; rintro e w' ⟨rfl, rfl⟩) | (go_at_call_of 23 (Value.pointer (some ⟨p1, 0, none⟩)); refine hfx.mono ?_; rintro e w' ⟨rfl, rfl⟩))
          go_ret
          refine ⟨?_, Mod.refl _ _⟩
          rw [HSM.out]
          exact ⟨rfl, HH.out⟩
        · rw [if_neg hm] at hlm hsm
          simp only [pairv] at hlm
          by_cases hna : (a' : Int) ∈ M.map (·.1)
          · obtain ⟨v, hv⟩ := Option.isSome_iff_exists.1 ((get?_isSome M _).2 hna)
            rw [hv] at hlt
            rw [if_pos (.inl hna)] at hsm
            simp only [i64v] at hlt hlk
            have hlk' : ∃ c d, (Instr.lookup 42 (.map (some mk)) (.int .i64 (b' : Int)) true).run Try.prog w = .ok (.tuple #[.int .i64 c, .bool d]) w := by
              rw [hlk]; split
              · exact ⟨_, _, rfl⟩
              · exact ⟨_, _, rfl⟩
            obtain ⟨c, d, hlk'⟩ := hlk'
            clear hlk hv hna
            have HSM := Lib.hid hsm
            have HH := Lib.hid h
            clear hsm h hsh hk1 hk2 hoa hob ho1 ho2 hix' hiy' hm
            go_enter Try.func57, Try.ntmps57
            go_wp2_with (first | (go_at_call_of 87 (x : Int); refine (hix _).mono ?_; rintro e w' ⟨rfl, rfl⟩) | (go_at_call_of 87 (y : Int); refine (hiy _).mono ?_; rintro e w' ⟨rfl, rfl⟩) | (go_at_call_of 26 (Value.pointer (some ⟨p1, 0, none⟩)); refine hcx.mono ?_; rintro e w' ⟨rfl, rfl⟩) | (go_at_call_of 26 (Value.pointer (some ⟨p2, 0, none⟩)); refine hcy.mono ?_; rintro e w' ⟨rfl, rfl⟩) | (go_at_call_of 23 (Value.pointer (some ⟨p1, 0, none⟩)); refine hfx.mono ?_; rintro e w' ⟨rfl, rfl⟩))
            go_quiet ((first | (go_at_call_of 26 (Value.pointer (some ⟨p1, 0, none⟩)); exact Calls.quiet_of_same ((hcxd _).mono fun e w' h => ⟨h.1, h.2.symm⟩)) | (go_at_call_of 26 (Value.pointer (some ⟨p2, 0, none⟩)); exact Calls.quiet_of_same ((hcyd _).mono fun e w' h => ⟨h.1, h.2.symm⟩)) | (go_at_call_of 23 (Value.pointer (some ⟨p2, 0, none⟩)); exact Calls.quiet_of_same ((hfyd _).mono fun e w' h => ⟨h.1, h.2.symm⟩))))
            go_wp2
            go_ret
            refine ⟨?_, (drewN_mod _ _).mono (by simp)⟩
            rw [HSM.out]
            rfl
          · rw [(get?_none M _).2 hna] at hlt
            simp only [i64v] at hlt
            have hbk : (b' : Int) ∈ (M.map fun p => (p.2, p.1)).map (·.1) ↔ (b' : Int) ∈ M.map (·.2) := by simp
            by_cases hnb : (b' : Int) ∈ M.map (·.2)
            · obtain ⟨v, hv⟩ := Option.isSome_iff_exists.1 ((get?_isSome _ _).2 (hbk.2 hnb))
              rw [hv] at hlk
              rw [if_pos (.inr (.inl hnb))] at hsm
              simp only [i64v] at hlk
              clear hv hnb hbk hna
              have HSM := Lib.hid hsm
              have HH := Lib.hid h
              clear hsm h hsh hk1 hk2 hoa hob ho1 ho2 hix' hiy' hm
              go_enter Try.func57, Try.ntmps57
              go_wp2_with (first | (go_at_call_of 87 (x : Int); refine (hix _).mono ?_; rintro e w' ⟨rfl, rfl⟩) | (go_at_call_of 87 (y : Int); refine (hiy _).mono ?_; rintro e w' ⟨rfl, rfl⟩) | (go_at_call_of 26 (Value.pointer (some ⟨p1, 0, none⟩)); refine hcx.mono ?_; rintro e w' ⟨rfl, rfl⟩) | (go_at_call_of 26 (Value.pointer (some ⟨p2, 0, none⟩)); refine hcy.mono ?_; rintro e w' ⟨rfl, rfl⟩) | (go_at_call_of 23 (Value.pointer (some ⟨p1, 0, none⟩)); refine hfx.mono ?_; rintro e w' ⟨rfl, rfl⟩))
              go_quiet ((first | (go_at_call_of 26 (Value.pointer (some ⟨p1, 0, none⟩)); exact Calls.quiet_of_same ((hcxd _).mono fun e w' h => ⟨h.1, h.2.symm⟩)) | (go_at_call_of 26 (Value.pointer (some ⟨p2, 0, none⟩)); exact Calls.quiet_of_same ((hcyd _).mono fun e w' h => ⟨h.1, h.2.symm⟩)) | (go_at_call_of 23 (Value.pointer (some ⟨p2, 0, none⟩)); exact Calls.quiet_of_same ((hfyd _).mono fun e w' h => ⟨h.1, h.2.symm⟩))))
              go_wp2
              go_ret
              refine ⟨?_, (drewN_mod _ _).mono (by simp)⟩
              rw [HSM.out]
              rfl
            · rw [(get?_none _ _).2 (fun h => hnb (hbk.1 h))] at hlk
              simp only [i64v] at hlk
              have ec : ((o1.1 : Int) != o2.1) = !decide (o1.1 = o2.1) := by
                rw [Bool.eq_iff_iff]; simp
              have el : (((o1.2.length : Nat) : Int) != (o2.2.length : Nat)) = !decide (o1.2.length = o2.2.length) := by
                rw [Bool.eq_iff_iff]; simp; omega
              by_cases hcl : o1.1 = o2.1
              · by_cases hln : o1.2.length = o2.2.length
                · rw [if_neg (fun h1 => h1.elim hna fun h1 => h1.elim hnb fun h1 => by rw [hsh] at h1; simp [hcl, hln] at h1), hk1, hk2] at hsm
                  exact same_main fa fb n ih x y q p1 p2 F1 F2 mm mt mk M w hx hy h hwf hn a' b' hix' hiy' o1 o2 ho1 ho2 hm hna hnb hcl hln hsm
                · have hsh' : shape La Lb a' b' = false := by rw [hsh]; simp [hln]
                  rw [if_pos (.inr (.inr hsh'))] at hsm
                  have hn1 : ((o1.2.length : Int) != (o2.2.length : Int)) = true := by rw [el]; simp [hln]
                  clear hsh' ec el hln hbk hna hnb
                  have HSM := Lib.hid hsm
                  have HH := Lib.hid h
                  clear hsm h hsh hk1 hk2 hoa hob ho1 ho2 hix' hiy' hm
                  go_enter Try.func57, Try.ntmps57
                  go_wp2_with (first | (go_at_call_of 87 (x : Int); refine (hix _).mono ?_; rintro e w' ⟨rfl, rfl⟩) | (go_at_call_of 87 (y : Int); refine (hiy _).mono ?_; rintro e w' ⟨rfl, rfl⟩) | (go_at_call_of 26 (Value.pointer (some ⟨p1, 0, none⟩)); refine hcx.mono ?_; rintro e w' ⟨rfl, rfl⟩) | (go_at_call_of 26 (Value.pointer (some ⟨p2, 0, none⟩)); refine hcy.mono ?_; rintro e w' ⟨rfl, rfl⟩) | (go_at_call_of 23 (Value.pointer (some ⟨p1, 0, none⟩)); refine hfx.mono ?_; rintro e w' ⟨rfl, rfl⟩))
                  go_quiet ((first | (go_at_call_of 26 (Value.pointer (some ⟨p1, 0, none⟩)); exact Calls.quiet_of_same ((hcxd _).mono fun e w' h => ⟨h.1, h.2.symm⟩)) | (go_at_call_of 26 (Value.pointer (some ⟨p2, 0, none⟩)); exact Calls.quiet_of_same ((hcyd _).mono fun e w' h => ⟨h.1, h.2.symm⟩)) | (go_at_call_of 23 (Value.pointer (some ⟨p2, 0, none⟩)); exact Calls.quiet_of_same ((hfyd _).mono fun e w' h => ⟨h.1, h.2.symm⟩))))
                  go_wp2
                  go_ret
                  refine ⟨?_, (drewN_mod _ _).mono (by simp)⟩
                  rw [HSM.out]
                  rfl
              · have hsh' : shape La Lb a' b' = false := by rw [hsh]; simp [hcl]
                rw [if_pos (.inr (.inr hsh'))] at hsm
                have hn1 : ((o1.1 : Int) != o2.1) = true := by rw [ec]; simp [hcl]
                clear hsh' ec el hcl hbk hna hnb
                have HSM := Lib.hid hsm
                have HH := Lib.hid h
                clear hsm h hsh hk1 hk2 hoa hob ho1 ho2 hix' hiy' hm
                go_enter Try.func57, Try.ntmps57
                go_wp2_with (first | (go_at_call_of 87 (x : Int); refine (hix _).mono ?_; rintro e w' ⟨rfl, rfl⟩) | (go_at_call_of 87 (y : Int); refine (hiy _).mono ?_; rintro e w' ⟨rfl, rfl⟩) | (go_at_call_of 26 (Value.pointer (some ⟨p1, 0, none⟩)); refine hcx.mono ?_; rintro e w' ⟨rfl, rfl⟩) | (go_at_call_of 26 (Value.pointer (some ⟨p2, 0, none⟩)); refine hcy.mono ?_; rintro e w' ⟨rfl, rfl⟩) | (go_at_call_of 23 (Value.pointer (some ⟨p1, 0, none⟩)); refine hfx.mono ?_; rintro e w' ⟨rfl, rfl⟩))
                go_quiet ((first | (go_at_call_of 26 (Value.pointer (some ⟨p1, 0, none⟩)); exact Calls.quiet_of_same ((hcxd _).mono fun e w' h => ⟨h.1, h.2.symm⟩)) | (go_at_call_of 26 (Value.pointer (some ⟨p2, 0, none⟩)); exact Calls.quiet_of_same ((hcyd _).mono fun e w' h => ⟨h.1, h.2.symm⟩)) | (go_at_call_of 23 (Value.pointer (some ⟨p2, 0, none⟩)); exact Calls.quiet_of_same ((hfyd _).mono fun e w' h => ⟨h.1, h.2.symm⟩))))
                go_wp2
                go_ret
                refine ⟨?_, (drewN_mod _ _).mono (by simp)⟩
                rw [HSM.out]
                rfl
end
end Go.Proofs.Ytldlolpbnfgdeaa
