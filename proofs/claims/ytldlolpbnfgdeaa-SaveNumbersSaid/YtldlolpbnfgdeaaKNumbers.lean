/- SaveNumbers: the walk. -/
import Derived.Test.YtldlolpbnfgdeaaKTells
import Derived.Test.YtldlolpbnfgdeaaKRegT
namespace Go.Proofs.Ytldlolpbnfgdeaa
open Go Go.RowKit

theorem info_ask : (Try.prog.info? 24).map (fun i => (i.zero, i.size, i.bytes)) = some (some (.agg #[.int .i64 0, .int .i64 0, .int .i64 0, .int .i64 0]), 4, 32) := by kernel_rfl
theorem ask_ok {a b c d : Int} (h1 : isI64 a) (h2 : isI64 b) (h3 : isI64 c) (h4 : isI64 d) : AskOk ⟨a, b, c, d⟩ := ⟨h1, h2, h3, h4⟩
/-- Two rows of asks that grow. -/
structure TwoA (w0 w : World) (lv mv : Value) (i : Nat) (la lb : List Ask) : Prop where
  a : Own w 24 4 lv i (la.flatMap askV)
  b : Own w 24 4 mv i (lb.flatMap askV)
  na : la.length = i
  nb : lb.length = i
  oka : ∀ k ∈ la, AskOk k
  okb : ∀ k ∈ lb, AskOk k
  fa : ∀ b ∈ ob lv, w0.heap.size ≤ b
  fb : ∀ b ∈ ob mv, w0.heap.size ≤ b
  d : ∀ b ∈ ob lv, b ∉ ob mv
  m : Mod [] w0 w
theorem TwoA.app {w0 w w1 w2 : World} {lv mv lv' mv' : Value} {i : Nat} {la lb : List Ask} (h : TwoA w0 w lv mv i la lb) (x y : Ask) (hx : AskOk x) (hy : AskOk y)
    (a' : Own w1 24 4 lv' (i + 1) (la.flatMap askV ++ askV x)) (m1 : Mod (ob lv) w w1) (f1 : ∀ b ∈ ob lv', b ∈ ob lv ∨ w.heap.size ≤ b)
    (b' : Own w2 24 4 mv' (i + 1) (lb.flatMap askV ++ askV y)) (m2 : Mod (ob mv) w1 w2) (f2 : ∀ b ∈ ob mv', b ∈ ob mv ∨ w1.heap.size ≤ b) : TwoA w0 w2 lv' mv' (i + 1) (la ++ [x]) (lb ++ [y]) := by
  have hs := h.m.size
  have hs1 := m1.size
  have hlt : ∀ b ∈ ob lv', b ∉ ob mv := fun b hb hb' => (f1 b hb).elim (fun h1 => h.d b h1 hb') (fun h1 => by have := h.b.lt' b hb'; omega)
  refine ⟨?_, ?_, by simp [h.na], by simp [h.nb], ?_, ?_, ?_, ?_, ?_, ?_⟩
  · have := a'.mod m2 hlt
    simpa using this
  · simpa using b'
  · intro k hk
    rcases List.mem_append.1 hk with hk | hk
    · exact h.oka k hk
    · simp at hk; subst hk; exact hx
  · intro k hk
    rcases List.mem_append.1 hk with hk | hk
    · exact h.okb k hk
    · simp at hk; subst hk; exact hy
  · intro b hb; rcases f1 b hb with h1 | h1
    · exact h.fa b h1
    · omega
  · intro b hb; rcases f2 b hb with h1 | h1
    · exact h.fb b h1
    · omega
  · intro b hb hb'
    rcases f2 b hb' with h1 | h1
    · exact hlt b hb h1
    · have := a'.lt' b hb; omega
  · refine (h.m.trans m1 (fun b hb => .inr (h.fa b hb))).trans m2 (fun b hb => .inr (h.fb b hb))
theorem rd_lit3 (w : World) (a b c : Int) : Rd (w.alloc (.cells #[.int .i64 a, .int .i64 b, .int .i64 c] 3)) 1 [a, b, c].length (.slice (some ⟨w.heap.size, 0, none⟩) 3 3) ([a, b, c].map i64v) := rd_lit w _ _ 3 rfl

set_option maxHeartbeats 4000000 in
set_option maxRecDepth 100000 in
theorem walk_numbers (w : World) : Calls Try.prog 3 #[] w fun e w' => e = .returned (.bool true) ∧ Mod [] w w' := by
  go_enter Try.func3, Try.ntmps3
  go_wp2_with fail
  go_loopw [1] (fun c wr => ∃ (k : Nat), k ≤ 40 ∧ c = .int .i64 k ∧ Hid (Mod [] w wr)) (fun c _ => 40 - (intOf c).toNat)
  case atStart => exact ⟨0, by omega, rfl, Mod.refl _ _⟩
  case round =>
    obtain ⟨k, hk, rfl, hM⟩ := hrel
    by_cases hlt : k < 40
    · have hlt' : (k : Int) < 40 := by omega
      have hk0 : (0 : Int) ≤ k := by omega
      go_wp2_with fail
      go_loopw [2, 3, 4] (fun lv mv c wz => ∃ (i : Nat) (la lb : List Ask), i ≤ 40 ∧ c = .int .i64 i ∧ Hid (TwoA wr wz lv mv i la lb)) (fun _ _ c _ => 40 - (intOf c).toNat)
      case atStart => exact ⟨0, [], [], by omega, rfl, ⟨Own.nil _ _ _, Own.nil _ _ _, rfl, rfl, by simp, by simp, by simp [ob, Value.ownBlock], by simp [ob, Value.ownBlock], by simp [ob, Value.ownBlock], Mod.refl _ _⟩⟩
      case round =>
        obtain ⟨i, la, lb, hi, rfl, hT⟩ := hrel
        by_cases hil : i < 40
        · have hil' : (i : Int) < 40 := by omega
          have hi0 : (0 : Int) ≤ i := by omega
          have hii : (i : Int) * i ≤ 1600 := by
            have : (i : Int) * i ≤ 40 * 40 := Int.mul_le_mul (by omega) (by omega) (by omega) (by omega)
            omega
          have hii0 : (0 : Int) ≤ (i : Int) * i := Int.mul_nonneg (by omega) (by omega)
          rcases (show (k : Int) / 20 = 0 ∨ (k : Int) / 20 = 1 by omega) with hq | hq
          · have hok1 : AskOk ⟨((i : Int) * i + k) % 3, ((i : Int) + k) % 11, (i : Int) % 4, ((i : Int) * 7 + k) % 23 + 2⟩ := ask_ok ⟨by omega, by omega⟩ ⟨by omega, by omega⟩ ⟨by omega, by omega⟩ ⟨by omega, by omega⟩
            have hok2 : AskOk ⟨((i : Int) * i + k) % 3, ((i : Int) + k) % 11, (i : Int) % 4, ((i : Int) * 7 + k) % 23 + 2⟩ := ask_ok ⟨by omega, by omega⟩ ⟨by omega, by omega⟩ ⟨by omega, by omega⟩ ⟨by omega, by omega⟩
            have HOK1 := Lib.hid hok1
            have HOK2 := Lib.hid hok2
            clear hok1 hok2
            go_wp2_with (first | (at_builtin; refine wpList_app1 rfl (.tmp 19) (.tmp 39) 22 rfl 24 _ 4 32 Try.underlying22 info_ask rfl (by omega) _ i (la.flatMap askV) (askV ⟨((i : Int) * i + k) % 3, ((i : Int) + k) % 11, (i : Int) % 4, ((i : Int) * 7 + k) % 23 + 2⟩) rfl hT.out.a _ rfl rfl rfl (by simp only [maxLen]; omega) (by omega) (fun lv' w5 hA hmA hoA => ?_)) | (at_builtin; refine wpList_app1 rfl (.tmp 41) (.tmp 64) 22 rfl 24 _ 4 32 Try.underlying22 info_ask rfl (by omega) _ i (lb.flatMap askV) (askV ⟨((i : Int) * i + k) % 3, ((i : Int) + k) % 11, (i : Int) % 4, ((i : Int) * 7 + k) % 23 + 2⟩) rfl (hT.out.b.mod hmA (fun b hb hb' => hT.out.d b hb' hb)) _ rfl rfl rfl (by simp only [maxLen]; omega) (by omega) (fun mv' w6 hB hmB hoB => ?_)))
            have HT := Lib.hid (hT.out.app _ _ HOK1.out HOK2.out hA hmA hoA hB hmB hoB)
            clear hA hmA hoA hB hmB hoB hT
            go_roundw
            case rel => exact ⟨i + 1, _, _, by omega, by go_num, HT⟩
            case measure => simp [intOf]; omega
          · have hok1 : AskOk ⟨((i : Int) * i + k) % 3, ((i : Int) + k) % 11, (i : Int) % 4, ((i : Int) * 7 + k) % 23 + 2⟩ := ask_ok ⟨by omega, by omega⟩ ⟨by omega, by omega⟩ ⟨by omega, by omega⟩ ⟨by omega, by omega⟩
            have hok2 : AskOk ⟨((i : Int) * i + k) % 3, ((i : Int) + k) % 11, (i : Int) % 4, ((i : Int) * 7 + k) % 22 + 2⟩ := ask_ok ⟨by omega, by omega⟩ ⟨by omega, by omega⟩ ⟨by omega, by omega⟩ ⟨by omega, by omega⟩
            have HOK1 := Lib.hid hok1
            have HOK2 := Lib.hid hok2
            clear hok1 hok2
            go_wp2_with (first | (at_builtin; refine wpList_app1 rfl (.tmp 19) (.tmp 39) 22 rfl 24 _ 4 32 Try.underlying22 info_ask rfl (by omega) _ i (la.flatMap askV) (askV ⟨((i : Int) * i + k) % 3, ((i : Int) + k) % 11, (i : Int) % 4, ((i : Int) * 7 + k) % 23 + 2⟩) rfl hT.out.a _ rfl rfl rfl (by simp only [maxLen]; omega) (by omega) (fun lv' w5 hA hmA hoA => ?_)) | (at_builtin; refine wpList_app1 rfl (.tmp 41) (.tmp 64) 22 rfl 24 _ 4 32 Try.underlying22 info_ask rfl (by omega) _ i (lb.flatMap askV) (askV ⟨((i : Int) * i + k) % 3, ((i : Int) + k) % 11, (i : Int) % 4, ((i : Int) * 7 + k) % 22 + 2⟩) rfl (hT.out.b.mod hmA (fun b hb hb' => hT.out.d b hb' hb)) _ rfl rfl rfl (by simp only [maxLen]; omega) (by omega) (fun mv' w6 hB hmB hoB => ?_)))
            have HT := Lib.hid (hT.out.app _ _ HOK1.out HOK2.out hA hmA hoA hB hmB hoB)
            clear hA hmA hoA hB hmB hoB hT
            go_roundw
            case rel => exact ⟨i + 1, _, _, by omega, by go_num, HT⟩
            case measure => simp [intOf]; omega
        · have hil' : ¬ (i : Int) < 40 := by omega
          obtain rfl : i = 40 := by omega
          have hrd1 : Rd wr 4 la.length u2 (la.flatMap askV) := by rw [hT.out.na]; exact hT.out.a.rd
          have hrd2 : Rd wr 4 lb.length u3 (lb.flatMap askV) := by rw [hT.out.nb]; exact hT.out.b.rd
          have hna : la.length = 40 := hT.out.na
          have hnb : lb.length = 40 := hT.out.nb
          have c1 := l_made u2 la wr hrd1 hT.out.oka (by omega)
          have c2 := fun w1 (h : Mod [] wr w1) => l_made u3 lb w1 (hrd2.mod0 h) hT.out.okb (by omega)
          have hMw : Mod [] w wr := hM.out.trans hT.out.m (by simp)
          obtain ⟨fa, hLa⟩ := made_fit la
          obtain ⟨fb, hLb⟩ := made_fit lb
          generalize madeP la = La at *
          generalize madeP lb = Lb at *
          have HMW := Lib.hid hMw
          clear hna hnb hrd1 hrd2 hT hM hMw
          go_wp2_with (first | (go_at_call_of 15 u2; refine c1.mono ?_; rintro e w1 ⟨p1, r1, rfl, F1, G1, h1⟩) | (go_at_call_of 15 u3; refine (c2 _ h1.m).mono ?_; rintro e w2 ⟨p2, r2, rfl, F2, G2, h2⟩))
          have hb1 := h1.mod h2.m
          have hM2 : Mod [] wr w2 := hb1.m
          obtain ⟨lv1, vs1, hIR1, -⟩ := hb1.r
          obtain ⟨a1, cap1, hlv1, hcell1⟩ := hIR1.slice
          obtain ⟨lv2, vs2, hIR2, -⟩ := h2.r
          obtain ⟨a2, cap2, hlv2, hcell2⟩ := hIR2.slice
          have hr1l := lt_of_blk hIR1.hp
          have hr2l := lt_of_blk hIR2.hp
          have hok3 : ∀ z ∈ [(2 : Int), (k : Int), (k : Int) + 3], isI64 z := by
            intro z hz
            simp at hz
            rcases hz with rfl | rfl | rfl <;> exact ⟨by omega, by omega⟩
          have hnum := fun (n : Nat) (hn : n ≤ 60) v w3 (h : Rd w3 1 [(2 : Int), (k : Int), (k : Int) + 3].length v ([(2 : Int), (k : Int), (k : Int) + 3].map i64v)) => l_numbers n v [2, k, (k : Int) + 3] w3 (by omega) (by omega) h hok3 (by simp)
          have hSk : ∀ w', Mod [] w2 w' → w'.cell? ⟨r1, 0, none⟩ = some (.slice a1 La.length cap1) ∧ w'.cell? ⟨r2, 0, none⟩ = some (.slice a2 Lb.length cap2) := fun w' h => ⟨(h.cell hr1l (by simp)).trans hcell1, (h.cell hr2l (by simp)).trans hcell2⟩
          have hn1 := numP_ok La.length [2, k, (k : Int) + 3] (by omega) (by omega)
          have hn2 := numP_ok Lb.length [2, k, (k : Int) + 3] (by omega) (by omega)
          have HEND : ∀ w9 vr vs, Mod [] w2 w9 → Rd w9 1 (numP La.length [2, k, (k : Int) + 3]).length vr ((numP La.length [2, k, (k : Int) + 3]).map u32v) → Rd w9 1 (numP Lb.length [2, k, (k : Int) + 3]).length vs ((numP Lb.length [2, k, (k : Int) + 3]).map u32v) → Sv w w9 p1 r1 p2 r2 La Lb vr vs (numP La.length [2, k, (k : Int) + 3]) (numP Lb.length [2, k, (k : Int) + 3]) := fun w9 vr vs hm hr hs =>
            ⟨⟨_, hb1.s.mod hm (by simp)⟩, ⟨_, hb1.r.mod hm (by simp)⟩, ⟨_, h2.s.mod hm (by simp)⟩, ⟨_, h2.r.mod hm (by simp)⟩, hr, hs, (HMW.out.trans hM2 (by simp)).trans hm (by simp), fa, fb, hn1, hn2⟩
          have hXl : (reachP La (numP La.length [2, k, (k : Int) + 3])).length ≤ 1000 := Nat.le_trans (reachP_good La _).2.2 (by omega)
          have HHEND := Lib.hid HEND
          have HNUM := Lib.hid hnum
          have HSK := Lib.hid hSk
          clear hIR1 hIR2 hlv1 hlv2 c1 c2 hb1 h2 h1 hok3 hnum HEND hn1 hn2 hM2 hSk
          refine wp_tree [0, 1, 2, 3, 4, 5, 6, 7, 10, 11, 12, 13, 14, 15, 16, 17] 6 (fun w' => w'.cell? ⟨r1, 0, none⟩ = some (.slice a1 La.length cap1) ∧ w'.cell? ⟨r2, 0, none⟩ = some (.slice a2 Lb.length cap2)) (by kernel_rfl) (by kernel_rfl) ⟨hcell1, hcell2⟩ ?_
          simp only [pickAll, List.filterMap_cons, List.filterMap_nil, List.getElem?_cons_succ, List.getElem?_cons_zero]
          repeat (refine' wpTake_step rfl (fun w hS => by obtain ⟨hS0, hS1⟩ := hS; go_simp; rfl) ?_; simp only [Act.put, List.setIfInBounds_toArray, List.set_cons_zero, List.set_cons_succ])
          refine wpTake_nil ?_
          clear hcell1 hcell2 hr1l hr2l
          have hMd : Mod [] w2 w2.drew := (Mod.refl _ _).drew
          generalize w2.drew = w3 at *
          refine wpAnyG_two 8 18 (by kernel_rfl) rfl rfl (fun K hK => ?_) (fun K hK => ?_)
          · go_wp2
            have hR1 := rd_lit3 w3 2 k ((k : Int) + 3)
            have hM4 := hMd.step (.cells #[.int .i64 2, .int .i64 (k : Int), .int .i64 ((k : Int) + 3)] 3)
            refine hK _ _ (HSK.out _ hM4) ?_
            clear hK K
            generalize w3.alloc (.cells #[.int .i64 2, .int .i64 (k : Int), .int .i64 ((k : Int) + 3)] 3) = w4 at *
            generalize w3.heap.size = s3 at *
            refine wpAnyG_two 9 18 (by kernel_rfl) rfl rfl (fun K hK => ?_) (fun K hK => ?_)
            · go_wp2_with (go_at_call 16; refine (HNUM.out La.length hLa _ _ hR1).mono ?_; rintro e w5 ⟨vr, rfl, hR, -, hM5⟩)
              have hM6 := hM4.trans hM5 (by simp)
              refine hK _ _ (HSK.out _ hM6) ?_
              clear hK K
              refine wpAnyG_one 18 (by kernel_rfl) rfl (fun K hK => ?_)
              go_wp2
              have hR2 := rd_lit3 w5 2 k ((k : Int) + 3)
              have hM7 := hM6.step (.cells #[.int .i64 2, .int .i64 (k : Int), .int .i64 ((k : Int) + 3)] 3)
              have hRr := hR.rd.alloc (.cells #[.int .i64 2, .int .i64 (k : Int), .int .i64 ((k : Int) + 3)] 3)
              refine hK _ _ (HSK.out _ hM7) ?_
              clear hK K
              generalize w5.alloc (.cells #[.int .i64 2, .int .i64 (k : Int), .int .i64 ((k : Int) + 3)] 3) = w7 at *
              generalize w5.heap.size = s5 at *
              refine wpAnyG_one 19 (by kernel_rfl) rfl (fun K hK => ?_)
              go_wp2_with (go_at_call 16; refine (HNUM.out Lb.length hLb _ _ hR2).mono ?_; rintro e w9 ⟨vs, rfl, hS, -, hM8⟩)
              have hM9 := hM7.trans hM8 (by simp)
              refine hK _ _ (HSK.out _ hM9) ?_
              clear hK K
              refine wpAnyG_one 20 (by kernel_rfl) rfl (fun K hK => ?_)
              go_wp2
              refine hK _ _ (HSK.out _ hM9) ?_
              clear hK K
              refine wpAnyG_one 21 (by kernel_rfl) rfl (fun K hK => ?_)
              go_wp2
              refine hK _ _ (HSK.out _ hM9) ?_
              clear hK K
              refine wpAnyG_end (by kernel_rfl) ?_
              have hv0 := HHEND.out w9 vr vs hM9 (hRr.mod0 hM8) hS.rd
              clear HHEND HSK HNUM hR hS hM9 hM8 hM7 hR2 hRr
              generalize numP La.length [2, (k : Int), (k : Int) + 3] = R at *
              generalize numP Lb.length [2, (k : Int), (k : Int) + 3] = S at *
              go_wp2_with (first | (go_at_call 18; refine (t_reach1 hv0).mono ?_; rintro e w11 ⟨u1, rfl, hu1, hv1⟩) | (go_at_call 19; refine (t_book1 hv1 hu1).mono ?_; rintro e w12 ⟨u2, rfl, hu2, hu1', hv2⟩) | (go_at_call 17; refine (t_eq hv2 hXl hu1' hu2).mono ?_; rintro e w13 ⟨rfl, hv3⟩) | (go_at_call_of 20 (Value.pointer (some ⟨p2, 0, none⟩)); refine (t_same12 hv3).mono ?_; rintro e w14 ⟨rfl, hv4⟩) | (go_at_call 21; refine (t_alike12 hv4).mono ?_; rintro e w15 ⟨rfl, hv5⟩) | (go_at_call 20; refine (t_same11 hv5).mono ?_; rintro e w16 ⟨rfl, hv6⟩))
              go_roundw
              case rel => exact ⟨k + 1, by omega, by go_num, hv6.m⟩
              case measure => simp [intOf]; omega
            · go_wp2
              have hR2 := rd_lit3 w4 2 k ((k : Int) + 3)
              have hM5 := hM4.step (.cells #[.int .i64 2, .int .i64 (k : Int), .int .i64 ((k : Int) + 3)] 3)
              have hR1' := hR1.alloc (.cells #[.int .i64 2, .int .i64 (k : Int), .int .i64 ((k : Int) + 3)] 3)
              refine hK _ _ (HSK.out _ hM5) ?_
              clear hK K
              generalize w4.alloc (.cells #[.int .i64 2, .int .i64 (k : Int), .int .i64 ((k : Int) + 3)] 3) = w5 at *
              generalize w4.heap.size = s4 at *
              refine wpAnyG_one 9 (by kernel_rfl) rfl (fun K hK => ?_)
              go_wp2_with (go_at_call 16; refine (HNUM.out La.length hLa _ _ hR1').mono ?_; rintro e w7 ⟨vr, rfl, hR, -, hM6⟩)
              have hM7 := hM5.trans hM6 (by simp)
              refine hK _ _ (HSK.out _ hM7) ?_
              clear hK K
              replace hR2 := hR2.mod0 hM6
              have hRr := hR.rd
              refine wpAnyG_one 19 (by kernel_rfl) rfl (fun K hK => ?_)
              go_wp2_with (go_at_call 16; refine (HNUM.out Lb.length hLb _ _ hR2).mono ?_; rintro e w9 ⟨vs, rfl, hS, -, hM8⟩)
              have hM9 := hM7.trans hM8 (by simp)
              refine hK _ _ (HSK.out _ hM9) ?_
              clear hK K
              refine wpAnyG_one 20 (by kernel_rfl) rfl (fun K hK => ?_)
              go_wp2
              refine hK _ _ (HSK.out _ hM9) ?_
              clear hK K
              refine wpAnyG_one 21 (by kernel_rfl) rfl (fun K hK => ?_)
              go_wp2
              refine hK _ _ (HSK.out _ hM9) ?_
              clear hK K
              refine wpAnyG_end (by kernel_rfl) ?_
              have hv0 := HHEND.out w9 vr vs hM9 (hRr.mod0 hM8) hS.rd
              clear HHEND HSK HNUM hR hS hM9 hM8 hM7 hR2 hRr
              generalize numP La.length [2, (k : Int), (k : Int) + 3] = R at *
              generalize numP Lb.length [2, (k : Int), (k : Int) + 3] = S at *
              go_wp2_with (first | (go_at_call 18; refine (t_reach1 hv0).mono ?_; rintro e w11 ⟨u1, rfl, hu1, hv1⟩) | (go_at_call 19; refine (t_book1 hv1 hu1).mono ?_; rintro e w12 ⟨u2, rfl, hu2, hu1', hv2⟩) | (go_at_call 17; refine (t_eq hv2 hXl hu1' hu2).mono ?_; rintro e w13 ⟨rfl, hv3⟩) | (go_at_call_of 20 (Value.pointer (some ⟨p2, 0, none⟩)); refine (t_same12 hv3).mono ?_; rintro e w14 ⟨rfl, hv4⟩) | (go_at_call 21; refine (t_alike12 hv4).mono ?_; rintro e w15 ⟨rfl, hv5⟩) | (go_at_call 20; refine (t_same11 hv5).mono ?_; rintro e w16 ⟨rfl, hv6⟩))
              go_roundw
              case rel => exact ⟨k + 1, by omega, by go_num, hv6.m⟩
              case measure => simp [intOf]; omega
          · go_wp2
            have hR2 := rd_lit3 w3 2 k ((k : Int) + 3)
            have hM4 := hMd.step (.cells #[.int .i64 2, .int .i64 (k : Int), .int .i64 ((k : Int) + 3)] 3)
            refine hK _ _ (HSK.out _ hM4) ?_
            clear hK K
            generalize w3.alloc (.cells #[.int .i64 2, .int .i64 (k : Int), .int .i64 ((k : Int) + 3)] 3) = w4 at *
            generalize w3.heap.size = s3 at *
            refine wpAnyG_one 8 (by kernel_rfl) rfl (fun K hK => ?_)
            go_wp2
            have hR1 := rd_lit3 w4 2 k ((k : Int) + 3)
            have hM5 := hM4.step (.cells #[.int .i64 2, .int .i64 (k : Int), .int .i64 ((k : Int) + 3)] 3)
            replace hR2 := hR2.alloc (.cells #[.int .i64 2, .int .i64 (k : Int), .int .i64 ((k : Int) + 3)] 3)
            refine hK _ _ (HSK.out _ hM5) ?_
            clear hK K
            generalize w4.alloc (.cells #[.int .i64 2, .int .i64 (k : Int), .int .i64 ((k : Int) + 3)] 3) = w5 at *
            generalize w4.heap.size = s4 at *
            refine wpAnyG_one 9 (by kernel_rfl) rfl (fun K hK => ?_)
            go_wp2_with (go_at_call 16; refine (HNUM.out La.length hLa _ _ hR1).mono ?_; rintro e w7 ⟨vr, rfl, hR, -, hM6⟩)
            have hM7 := hM5.trans hM6 (by simp)
            refine hK _ _ (HSK.out _ hM7) ?_
            clear hK K
            replace hR2 := hR2.mod0 hM6
            have hRr := hR.rd
            refine wpAnyG_one 19 (by kernel_rfl) rfl (fun K hK => ?_)
            go_wp2_with (go_at_call 16; refine (HNUM.out Lb.length hLb _ _ hR2).mono ?_; rintro e w9 ⟨vs, rfl, hS, -, hM8⟩)
            have hM9 := hM7.trans hM8 (by simp)
            refine hK _ _ (HSK.out _ hM9) ?_
            clear hK K
            refine wpAnyG_one 20 (by kernel_rfl) rfl (fun K hK => ?_)
            go_wp2
            refine hK _ _ (HSK.out _ hM9) ?_
            clear hK K
            refine wpAnyG_one 21 (by kernel_rfl) rfl (fun K hK => ?_)
            go_wp2
            refine hK _ _ (HSK.out _ hM9) ?_
            clear hK K
            refine wpAnyG_end (by kernel_rfl) ?_
            have hv0 := HHEND.out w9 vr vs hM9 (hRr.mod0 hM8) hS.rd
            clear HHEND HSK HNUM hR hS hM9 hM8 hM7 hR2 hRr
            generalize numP La.length [2, (k : Int), (k : Int) + 3] = R at *
            generalize numP Lb.length [2, (k : Int), (k : Int) + 3] = S at *
            go_wp2_with (first | (go_at_call 18; refine (t_reach1 hv0).mono ?_; rintro e w11 ⟨u1, rfl, hu1, hv1⟩) | (go_at_call 19; refine (t_book1 hv1 hu1).mono ?_; rintro e w12 ⟨u2, rfl, hu2, hu1', hv2⟩) | (go_at_call 17; refine (t_eq hv2 hXl hu1' hu2).mono ?_; rintro e w13 ⟨rfl, hv3⟩) | (go_at_call_of 20 (Value.pointer (some ⟨p2, 0, none⟩)); refine (t_same12 hv3).mono ?_; rintro e w14 ⟨rfl, hv4⟩) | (go_at_call 21; refine (t_alike12 hv4).mono ?_; rintro e w15 ⟨rfl, hv5⟩) | (go_at_call 20; refine (t_same11 hv5).mono ?_; rintro e w16 ⟨rfl, hv6⟩))
            go_roundw
            case rel => exact ⟨k + 1, by omega, by go_num, hv6.m⟩
            case measure => simp [intOf]; omega
    · have hlt' : ¬ (k : Int) < 40 := by omega
      have hkn := fun wq => l_known wq
      go_wp2_with (go_at_call 22; refine (hkn _).mono ?_; rintro e w' ⟨rfl, hmk⟩)
      go_ret
      exact ⟨rfl, hM.out.trans hmk (by simp)⟩
end Go.Proofs.Ytldlolpbnfgdeaa
