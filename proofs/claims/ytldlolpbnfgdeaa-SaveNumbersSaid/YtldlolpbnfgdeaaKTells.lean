/- SaveTells: the walk. -/
import Derived.Test.YtldlolpbnfgdeaaKAlike
import Derived.Test.YtldlolpbnfgdeaaKKnown
import Derived.Test.YtldlolpbnfgdeaaKMade
namespace Go.Proofs.Ytldlolpbnfgdeaa
open Go Go.RowKit

theorem numP_ok (n : Int) (l : List Int) (h0 : 0 ≤ n) (h1 : n ≤ 1073741824) : (∀ r ∈ numP n l, r < 4294967296) ∧ (numP n l).length ≤ 1000 := by
  unfold numP
  split
  · rename_i hn
    refine ⟨fun r hr => ?_, by simp; omega⟩
    obtain ⟨k, -, rfl⟩ := List.mem_map.1 hr
    have := wordP_lt k n (by omega) (by omega)
    omega
  · simp
/-- Two stores, each with its book, and roots of each. -/
structure Sv (w0 w : World) (p1 r1 p2 r2 : Nat) (La Lb : List SObj) (vr vs : Value) (R S : List Nat) : Prop where
  s1 : ∃ F, SRep w p1 La F
  x1 : ∃ F, RRep w r1 La F
  s2 : ∃ F, SRep w p2 Lb F
  x2 : ∃ F, RRep w r2 Lb F
  r : Rd w 1 R.length vr (R.map u32v)
  s : Rd w 1 S.length vs (S.map u32v)
  m : Mod [] w0 w
  fa : Fit La
  fb : Fit Lb
  rl : (∀ x ∈ R, x < 4294967296) ∧ R.length ≤ 1000
  sl : (∀ x ∈ S, x < 4294967296) ∧ S.length ≤ 1000
section
variable {w0 w : World} {p1 r1 p2 r2 : Nat} {La Lb : List SObj} {vr vs : Value} {R S : List Nat} (h : Sv w0 w p1 r1 p2 r2 La Lb vr vs R S)
include h
theorem Sv.mod {w' : World} (hm : Mod [] w w') : Sv w0 w' p1 r1 p2 r2 La Lb vr vs R S := by
  obtain ⟨⟨F1, s1⟩, ⟨G1, x1⟩, ⟨F2, s2⟩, ⟨G2, x2⟩, r, s, m, fa, fb, rl, sl⟩ := h
  exact ⟨⟨F1, s1.mod hm (by simp)⟩, ⟨G1, x1.mod hm (by simp)⟩, ⟨F2, s2.mod hm (by simp)⟩, ⟨G2, x2.mod hm (by simp)⟩, r.mod0 hm, s.mod0 hm, m.trans hm (by simp), fa, fb, rl, sl⟩
theorem t_reach1 : Calls Try.prog 18 #[.iface 25 (.pointer (some ⟨p1, 0, none⟩)), vr] w fun e w' => ∃ u, e = .returned u ∧ Rd w' 1 (reachP La R).length u ((reachP La R).map i64v) ∧ Sv w0 w' p1 r1 p2 r2 La Lb vr vs R S := by
  obtain ⟨F1, s1⟩ := h.s1
  refine (s_reach vr R s1 h.fa h.r h.rl.1 h.rl.2).mono ?_
  rintro e w' ⟨u, rfl, hu, -, hm⟩
  exact ⟨u, rfl, hu, h.mod hm⟩
theorem t_reach2 : Calls Try.prog 18 #[.iface 25 (.pointer (some ⟨p2, 0, none⟩)), vs] w fun e w' => ∃ u, e = .returned u ∧ Rd w' 1 (reachP Lb S).length u ((reachP Lb S).map i64v) ∧ Sv w0 w' p1 r1 p2 r2 La Lb vr vs R S := by
  obtain ⟨F1, s1⟩ := h.s2
  refine (s_reach vs S s1 h.fb h.s h.sl.1 h.sl.2).mono ?_
  rintro e w' ⟨u, rfl, hu, -, hm⟩
  exact ⟨u, rfl, hu, h.mod hm⟩
theorem t_book1 {u : Value} {l : List Int} (hu : Rd w 1 l.length u (l.map i64v)) : Calls Try.prog 19 #[.pointer (some ⟨r1, 0, none⟩), vr] w fun e w' => ∃ u', e = .returned u' ∧ Rd w' 1 (reachP La R).length u' ((reachP La R).map i64v) ∧ Rd w' 1 l.length u (l.map i64v) ∧ Sv w0 w' p1 r1 p2 r2 La Lb vr vs R S := by
  obtain ⟨F1, s1⟩ := h.x1
  refine (r_reach vr R s1 h.fa h.r h.rl.1 h.rl.2).mono ?_
  rintro e w' ⟨u', rfl, hu', -, hm⟩
  exact ⟨u', rfl, hu'.rd, hu.mod0 hm, h.mod hm⟩
theorem t_book2 {u : Value} {l : List Int} (hu : Rd w 1 l.length u (l.map i64v)) : Calls Try.prog 19 #[.pointer (some ⟨r2, 0, none⟩), vs] w fun e w' => ∃ u', e = .returned u' ∧ Rd w' 1 (reachP Lb S).length u' ((reachP Lb S).map i64v) ∧ Rd w' 1 l.length u (l.map i64v) ∧ Sv w0 w' p1 r1 p2 r2 La Lb vr vs R S := by
  obtain ⟨F1, s1⟩ := h.x2
  refine (r_reach vs S s1 h.fb h.s h.sl.1 h.sl.2).mono ?_
  rintro e w' ⟨u', rfl, hu', -, hm⟩
  exact ⟨u', rfl, hu'.rd, hu.mod0 hm, h.mod hm⟩
theorem t_eq {u u' : Value} {l : List Int} (hl : l.length ≤ 1000) (hu : Rd w 1 l.length u (l.map i64v)) (hu' : Rd w 1 l.length u' (l.map i64v)) : Calls Try.prog 17 #[u, u'] w fun e w' => e = .returned (.bool true) ∧ Sv w0 w' p1 r1 p2 r2 La Lb vr vs R S := by
  refine (same_int u u' l l w hu hu' (by omega) (by omega)).mono ?_
  rintro e w' ⟨rfl, hm⟩
  exact ⟨by simp, h.mod hm⟩
theorem t_same12 : Calls Try.prog 20 #[.iface 25 (.pointer (some ⟨p1, 0, none⟩)), vr, .iface 25 (.pointer (some ⟨p2, 0, none⟩)), vs] w fun e w' => e = .returned (.bool (alikeP La R Lb S)) ∧ Sv w0 w' p1 r1 p2 r2 La Lb vr vs R S := by
  obtain ⟨F1, s1⟩ := h.s1
  obtain ⟨F2, s2⟩ := h.s2
  rw [← same_alike]
  refine (s_same h.fa h.fb vr vs R S s1 s2 h.r h.s h.rl.1 h.sl.1 h.rl.2 h.sl.2).mono ?_
  rintro e w' ⟨rfl, hm⟩
  exact ⟨rfl, h.mod hm⟩
theorem t_same11 : Calls Try.prog 20 #[.iface 25 (.pointer (some ⟨p1, 0, none⟩)), vr, .iface 25 (.pointer (some ⟨p1, 0, none⟩)), vr] w fun e w' => e = .returned (.bool true) ∧ Sv w0 w' p1 r1 p2 r2 La Lb vr vs R S := by
  obtain ⟨F1, s1⟩ := h.s1
  rw [← same_self La R]
  refine (s_same h.fa h.fa vr vr R R s1 s1 h.r h.r h.rl.1 h.rl.1 h.rl.2 h.rl.2).mono ?_
  rintro e w' ⟨rfl, hm⟩
  exact ⟨rfl, h.mod hm⟩
theorem t_same1s : Calls Try.prog 20 #[.iface 25 (.pointer (some ⟨p1, 0, none⟩)), vr, .iface 25 (.pointer (some ⟨p1, 0, none⟩)), vs] w fun e w' => e = .returned (.bool (alikeP La R La S)) ∧ Sv w0 w' p1 r1 p2 r2 La Lb vr vs R S := by
  obtain ⟨F1, s1⟩ := h.s1
  rw [← same_alike]
  refine (s_same h.fa h.fa vr vs R S s1 s1 h.r h.s h.rl.1 h.sl.1 h.rl.2 h.sl.2).mono ?_
  rintro e w' ⟨rfl, hm⟩
  exact ⟨rfl, h.mod hm⟩
theorem t_alike12 : Calls Try.prog 21 #[.pointer (some ⟨r1, 0, none⟩), vr, .pointer (some ⟨r2, 0, none⟩), vs] w fun e w' => e = .returned (.bool (alikeP La R Lb S)) ∧ Sv w0 w' p1 r1 p2 r2 La Lb vr vs R S := by
  obtain ⟨F1, s1⟩ := h.x1
  obtain ⟨F2, s2⟩ := h.x2
  refine (l_alike h.fa h.fb vr vs R S s1 s2 h.r h.s h.rl.1 h.sl.1 h.rl.2 h.sl.2).mono ?_
  rintro e w' ⟨rfl, hm⟩
  exact ⟨rfl, h.mod hm⟩
theorem t_alike1s : Calls Try.prog 21 #[.pointer (some ⟨r1, 0, none⟩), vr, .pointer (some ⟨r1, 0, none⟩), vs] w fun e w' => e = .returned (.bool (alikeP La R La S)) ∧ Sv w0 w' p1 r1 p2 r2 La Lb vr vs R S := by
  obtain ⟨F1, s1⟩ := h.x1
  refine (l_alike h.fa h.fa vr vs R S s1 s1 h.r h.s h.rl.1 h.sl.1 h.rl.2 h.sl.2).mono ?_
  rintro e w' ⟨rfl, hm⟩
  exact ⟨rfl, h.mod hm⟩
theorem t_known : Calls Try.prog 22 #[] w fun e w' => e = .returned (.bool true) ∧ Sv w0 w' p1 r1 p2 r2 La Lb vr vs R S := by
  refine (l_known w).mono ?_
  rintro e w' ⟨rfl, hm⟩
  exact ⟨rfl, h.mod hm⟩
end
set_option maxHeartbeats 4000000 in
set_option maxRecDepth 100000 in
theorem walk_tells (v1 v2 v3 v4 : Value) (l m : List Ask) (ra rb : List Int) (w : World) (hv1 : Rd w 4 l.length v1 (l.flatMap askV)) (hl : ∀ a ∈ l, AskOk a) (hll : l.length ≤ 9223372036854775807)
    (hv2 : Rd w 4 m.length v2 (m.flatMap askV)) (hm : ∀ a ∈ m, AskOk a) (hml : m.length ≤ 9223372036854775807)
    (hv3 : Rd w 1 ra.length v3 (ra.map i64v)) (hra : ∀ k ∈ ra, isI64 k) (hral : ra.length ≤ 9223372036854775807) (hv4 : Rd w 1 rb.length v4 (rb.map i64v)) (hrb : ∀ k ∈ rb, isI64 k) (hrbl : rb.length ≤ 9223372036854775807) :
    Calls Try.prog 4 #[v1, v2, v3, v4] w fun e w' => e = .returned (.bool true) ∧ Mod [] w w' := by
  have c1 := l_made v1 l w hv1 hl hll
  have c2 := fun w1 (h : Mod [] w w1) => l_made v2 m w1 (hv2.mod0 h) hm hml
  obtain ⟨fa, hLa⟩ := made_fit l
  obtain ⟨fb, hLb⟩ := made_fit m
  generalize madeP l = La at *
  generalize madeP m = Lb at *
  go_enter Try.func4, Try.ntmps4
  go_wp2_with (first | (go_at_call_of 15 v1; refine c1.mono ?_; rintro e w1 ⟨p1, r1, rfl, F1, G1, h1⟩) | (go_at_call_of 15 v2; refine (c2 _ h1.m).mono ?_; rintro e w2 ⟨p2, r2, rfl, F2, G2, h2⟩))
  have hb1 := h1.mod h2.m
  have hM2 : Mod [] w w2 := hb1.m
  have q1 := hb1.r
  have q2 := h2.r
  obtain ⟨lv1, vs1, hIR1, -⟩ := hb1.r
  obtain ⟨a1, cap1, hlv1, hcell1⟩ := hIR1.slice
  obtain ⟨lv2, vs2, hIR2, -⟩ := h2.r
  obtain ⟨a2, cap2, hlv2, hcell2⟩ := hIR2.slice
  have hr1l := lt_of_blk hIR1.hp
  have hr2l := lt_of_blk hIR2.hp
  have c3 := fun w3 (h : Mod [] w w3) => l_numbers La.length v3 ra w3 (by omega) (by omega) (hv3.mod0 h) hra hral
  have c4 := fun w3 (h : Mod [] w w3) => l_numbers Lb.length v4 rb w3 (by omega) (by omega) (hv4.mod0 h) hrb hrbl
  clear hIR1 hIR2 hlv1 hlv2 c1 c2
  have HB1 := Lib.hid hb1
  have HB2 := Lib.hid h2
  clear hb1 h2 h1
  refine wp_plan [0, 1, 2, 3, 4, 5, 7, 8, 9, 10, 11, 12] [6, 13, 14, 15] (fun w' => w'.cell? ⟨r1, 0, none⟩ = some (.slice a1 La.length cap1) ∧ w'.cell? ⟨r2, 0, none⟩ = some (.slice a2 Lb.length cap2)) (by kernel_rfl) (by kernel_rfl) ⟨hcell1, hcell2⟩ ?_
  simp only [pickAll, List.filterMap_cons, List.filterMap_nil, List.getElem?_cons_succ, List.getElem?_cons_zero]
  repeat (refine' wpTake_step rfl (fun w hS => by obtain ⟨hS0, hS1⟩ := hS; go_simp; rfl) ?_; simp only [Act.put, List.setIfInBounds_toArray, List.set_cons_zero, List.set_cons_succ])
  refine wpTake_nil ?_
  refine wpRest_one (by kernel_rfl) (fun K hK => ?_)
  go_wp2_with (go_at_call 16; refine (c3 _ hM2.drew).mono ?_; rintro e w3 ⟨vr, rfl, hR, -, hM3⟩)
  refine hK _ _ ⟨(hM3.cell hr1l (by simp)).trans hcell1, (hM3.cell hr2l (by simp)).trans hcell2⟩ ?_
  clear hK K
  refine wpRest_one (by kernel_rfl) (fun K hK => ?_)
  go_wp2_with (go_at_call 16; refine (c4 _ (hM2.drew.trans hM3 (by simp))).mono ?_; rintro e w4 ⟨vs, rfl, hS, -, hM4⟩)
  have hM34 := hM3.trans hM4 (by simp)
  refine hK _ _ ⟨(hM34.cell hr1l (by simp)).trans hcell1, (hM34.cell hr2l (by simp)).trans hcell2⟩ ?_
  clear hK K
  refine wpRest_one (by kernel_rfl) (fun K hK => ?_)
  go_wp2
  refine hK _ _ ⟨(hM34.cell hr1l (by simp)).trans hcell1, (hM34.cell hr2l (by simp)).trans hcell2⟩ ?_
  clear hK K
  refine wpRest_last (by kernel_rfl) ?_
  go_wp2
  refine NoP_normal ?_
  have hM24 : Mod [] w2 w4 := (Mod.refl [] w2).drew.trans hM34 (by simp)
  have hn1 := numP_ok La.length ra (by omega) (by omega)
  have hn2 := numP_ok Lb.length rb (by omega) (by omega)
  have hv0 : Sv w w4 p1 r1 p2 r2 La Lb vr vs (numP La.length ra) (numP Lb.length rb) :=
    ⟨⟨_, HB1.out.s.mod hM24 (by simp)⟩, ⟨_, HB1.out.r.mod hM24 (by simp)⟩, ⟨_, HB2.out.s.mod hM24 (by simp)⟩, ⟨_, HB2.out.r.mod hM24 (by simp)⟩, hR.rd.mod0 hM4, hS.rd, hM2.trans hM24 (by simp), fa, fb, hn1, hn2⟩
  have hXl : (reachP La (numP La.length ra)).length ≤ 1000 := Nat.le_trans (reachP_good La _).2.2 (by omega)
  have hYl : (reachP Lb (numP Lb.length rb)).length ≤ 1000 := Nat.le_trans (reachP_good Lb _).2.2 (by omega)
  clear hcell1 hcell2 c3 c4 hR hS hM3 hM4 hM34 hM24 hM2 HB1 HB2 hn1 hn2 q1 q2 hv1 hv2 hv3 hv4 hl hm hra hrb
  generalize numP La.length ra = R at *
  generalize numP Lb.length rb = S at *
  go_wp2_with (first | (go_at_call_of 18 (Value.pointer (some ⟨p1, 0, none⟩)); refine (t_reach1 hv0).mono ?_; rintro e w1 ⟨u1, rfl, hu1, hv1⟩) | (go_at_call_of 19 (Value.pointer (some ⟨r1, 0, none⟩)); refine (t_book1 hv1 hu1).mono ?_; rintro e w2 ⟨u2, rfl, hu2, hu1', hv2⟩) | (go_at_call_of 17 (u1); refine (t_eq hv2 hXl hu1' hu2).mono ?_; rintro e w3 ⟨rfl, hv3⟩) | (go_at_call_of 18 (Value.pointer (some ⟨p2, 0, none⟩)); refine (t_reach2 hv3).mono ?_; rintro e w4 ⟨u3, rfl, hu3, hv4⟩) | (go_at_call_of 19 (Value.pointer (some ⟨r2, 0, none⟩)); refine (t_book2 hv4 hu3).mono ?_; rintro e w5 ⟨u4, rfl, hu4, hu3', hv5⟩) | (go_at_call_of 17 (u3); refine (t_eq hv5 hYl hu3' hu4).mono ?_; rintro e w6 ⟨rfl, hv6⟩) | (go_at_call_of 20 (Value.pointer (some ⟨p2, 0, none⟩)); refine (t_same12 hv6).mono ?_; rintro e w7 ⟨rfl, hv7⟩) | (go_at_call_of 21 (Value.pointer (some ⟨r2, 0, none⟩)); refine (t_alike12 hv7).mono ?_; rintro e w8 ⟨rfl, hv8⟩) | (go_at_call_of 20 (vs); refine (t_same1s hv9).mono ?_; rintro e w10 ⟨rfl, hv10⟩) | (go_at_call 20; refine (t_same11 hv8).mono ?_; rintro e w9 ⟨rfl, hv9⟩) | (go_at_call 21; refine (t_alike1s hv10).mono ?_; rintro e w11 ⟨rfl, hv11⟩) | (go_at_call 22; refine (t_known hv11).mono ?_; rintro e w12 ⟨rfl, hv12⟩))
  go_ret
  exact ⟨by simp, hv12.m⟩
end Go.Proofs.Ytldlolpbnfgdeaa
