/- treadwheelbook.Same at whole numbers; slices.Clip; law 23's numbers. -/
import Derived.Test.YtldlolpbnfgdeaaKWord
import Derived.Test.YtldlolpbnfgdeaaKRepeat
namespace Go.Proofs.Ytldlolpbnfgdeaa
open Go Go.RowKit

theorem clip_int (a : Option Addr) (n cap : Nat) (w : World) (hn : n ≤ cap) (hc : cap ≤ 9223372036854775807) :
    Calls Try.prog 55 #[.slice a n cap] w fun e w' => e = .returned (.slice a n n) ∧ w = w' := by
  have h1 : (n : Int) ≤ cap := by omega
  have h0 : (0 : Int) ≤ n := by omega
  go_enter Try.func55, Try.ntmps55
  go_wp2
  all_goals (go_ret; exact ⟨rfl, rfl⟩)

theorem same_int (v u : Value) (xs ys : List Int) (w : World) (hx : Rd w 1 xs.length v (xs.map i64v)) (hy : Rd w 1 ys.length u (ys.map i64v)) (hl : xs.length ≤ 1073741824) (hl' : ys.length ≤ 1073741824) :
    Calls Try.prog 17 #[v, u] w fun e w' => e = .returned (.bool (decide (xs = ys))) ∧ Mod [] w w' := by
  obtain ⟨a, cap, rfl, hcap⟩ := hx.val
  obtain ⟨a', cap', rfl, hcap'⟩ := hy.val
  by_cases hne : xs.length = ys.length
  case neg =>
    have hne' : (xs.length : Int) ≠ ys.length := by omega
    have hb : ((xs.length : Int) != (ys.length : Int)) = true := by simp; omega
    have hd : decide (xs = ys) = false := by
      apply decide_eq_false
      intro h; rw [h] at hne; exact hne rfl
    rw [hd]
    clear hd hne
    go_enter Try.func17, Try.ntmps17
    go_wp2
    go_ret
    exact ⟨rfl, Mod.refl _ _⟩
  case pos =>
    have hb : ((xs.length : Int) != (ys.length : Int)) = false := by simp; omega
    have HNE := Lib.hid hne
    clear hne
    go_enter Try.func17, Try.ntmps17
    go_wp2
    go_loopw [5] (fun i wr => ∃ k : Nat, k ≤ xs.length ∧ i = .int .i64 k ∧ Hid (xs.take k = ys.take k) ∧ Mod [] w wr) (fun i _ => xs.length - (intOf i).toNat)
    case atStart => exact ⟨0, Nat.zero_le _, rfl, rfl, Mod.refl _ _⟩
    case round =>
      obtain ⟨k, hk, rfl, htk, hm⟩ := hrel
      by_cases hlt : k < xs.length
      · have hlt' : (k : Int) < xs.length := by omega
        have hlt'' : (k : Int) < ys.length := by have := HNE.out; omega
        have hk0 : (0 : Int) ≤ k := by omega
        obtain ⟨b, off, c, rfl, hbl, hc1, hc2⟩ := (hx.mod0 hm).at1 (k := k) hlt
        obtain ⟨b', off', c', rfl, hbl', hc1', hc2'⟩ := (hy.mod0 hm).at1 (k := k) (by have := HNE.out; omega)
        have hkx : k < xs.length := hlt
        have hky : k < ys.length := by have := HNE.out; omega
        rw [List.getElem?_map, List.getElem?_eq_getElem hkx] at hc1
        rw [List.getElem?_map, List.getElem?_eq_getElem hky] at hc1'
        simp only [Option.map_some, Option.some.injEq, i64v] at hc1 hc1'
        subst hc1 hc1'
        have hst : xs.take (k + 1) = ys.take (k + 1) ↔ xs[k] = ys[k] := by
          rw [List.take_succ_eq_append_getElem hkx, List.take_succ_eq_append_getElem hky, htk.out, List.append_cancel_left_eq]
          simp
        have HST := Lib.hid hst
        clear hst
        generalize xs[k] = x at *
        generalize ys[k] = y at *
        go_wp2
        go_quiet (fail)
        go_wp2
        · have hxy : (x != y) = true := by assumption
          go_ret
          refine ⟨?_, hm.trans (Mod.of_below ⟨rfl, rfl, rfl, Nat.le_refl _, fun _ _ => rfl⟩) (by simp)⟩
          rw [show decide (xs = ys) = false from decide_eq_false fun h => by
            have := HST.out.1 (by rw [h])
            simp [this] at hxy]
          rfl
        · have hxy : (x != y) = false := by assumption
          have hxy' : x = y := by simpa using hxy
          refine ⟨⟨k + 1, by omega, by go_num, HST.out.2 hxy', hm.trans (Mod.of_below ⟨rfl, rfl, rfl, Nat.le_refl _, fun _ _ => rfl⟩) (by simp)⟩, by simp [intOf]; omega⟩
      · have hlt' : ¬ (k : Int) < xs.length := by omega
        obtain rfl : k = xs.length := by omega
        go_wp2
        go_ret
        have h1 := htk.out
        rw [List.take_of_length_le (Nat.le_refl _), List.take_of_length_le (by have := HNE.out; omega)] at h1
        exact ⟨by simp [h1], hm⟩

/-- Law 23's roots. -/
def numP (n : Int) (l : List Int) : List Nat := if 0 < n then (l.take 5).map (fun k => wordP k n) else []
def isI64 (k : Int) : Prop := -9223372036854775808 ≤ k ∧ k ≤ 9223372036854775807
set_option maxHeartbeats 1000000 in
theorem l_numbers (n : Int) (v : Value) (l : List Int) (w : World) (h0 : 0 ≤ n) (h1 : n ≤ 1073741824) (hv : Rd w 1 l.length v (l.map i64v)) (hl : ∀ k ∈ l, isI64 k) (hlen : l.length ≤ 9223372036854775807) :
    Calls Try.prog 16 #[.int .i64 n, v] w fun e w' => ∃ u, e = .returned u ∧ Own w' 44 1 u (numP n l).length ((numP n l).map u32v) ∧ (∀ b ∈ ob u, w.heap.size ≤ b) ∧ Mod [] w w' := by
  obtain ⟨a, cap, rfl, hcap⟩ := hv.val
  go_enter Try.func16, Try.ntmps16
  go_wp2
  go_loopw [5, 6] (fun out i wr => ∃ k : Nat, k ≤ l.length ∧ k ≤ 5 ∧ (k = 0 ∨ 0 < n) ∧ i = .int .i64 k ∧ Own wr 44 1 out k ((l.map (fun x => u32v (wordP x n))).take k) ∧ (∀ b ∈ ob out, w.heap.size ≤ b) ∧ Mod [] w wr) (fun _ i _ => 5 - (intOf i).toNat)
  case atStart => exact ⟨0, Nat.zero_le _, by omega, .inl rfl, rfl, Own.nil _ _ _, by simp [ob, Value.ownBlock], Mod.refl _ _⟩
  case round =>
    obtain ⟨k, hk, hk5, hn, rfl, hown, hfr, hm⟩ := hrel
    by_cases hc : k < l.length ∧ k < 5 ∧ 0 < n
    · obtain ⟨hc1, hc2, hc3⟩ := hc
      have hc1' : (k : Int) < l.length := by omega
      have hc2' : (k : Int) < 5 := by omega
      have hk0 : (0 : Int) ≤ k := by omega
      obtain ⟨b, off, c, rfl, hbl, hcc, hcell⟩ := (hv.mod0 hm).at1 (k := k) hc1
      rw [List.getElem?_map, List.getElem?_eq_getElem hc1] at hcc
      simp only [Option.map_some, Option.some.injEq, i64v] at hcc
      subst hcc
      have hx := hl _ (List.getElem_mem hc1)
      have hst : (l.map (fun x => u32v (wordP x n))).take (k + 1) = (l.map (fun x => u32v (wordP x n))).take k ++ [u32v (wordP l[k] n)] := by
        rw [List.take_succ_eq_append_getElem (by simpa using hc1)]; simp
      have HST := Lib.hid hst
      clear hst
      generalize l[k] = x at *
      obtain ⟨hx0, hx1⟩ := hx
      go_wp2_with (first | (go_at_call 51; refine (l_word x n hx0 hx1 (by omega) h1 _).mono ?_; rintro e w' ⟨rfl, rfl⟩; unfold u32v) | (at_builtin; refine wpList_app1 rfl (.tmp 21) (.tmp 28) 29 rfl 44 _ 1 4 Try.underlying29 info_u32 rfl (by omega) _ _ _ [.int .u32 (wordP x n)] rfl hown _ rfl rfl rfl (by simp only [maxLen]; omega) (by omega) ?_))
      intro out' w2 hown2 hm2 hat2
      have HR : Hid (Own w2 44 1 out' (k + 1) ((l.map (fun x => u32v (wordP x n))).take (k + 1)) ∧ (∀ b ∈ ob out', w.heap.size ≤ b) ∧ Mod [] w w2) := by
        refine ⟨by rw [HST.out]; exact hown2, fun b hb => (hat2 b hb).elim (hfr b) (fun h => by have := hm.size; omega), hm.trans hm2 fun b hb => .inr (hfr b hb)⟩
      clear hown2 hm2 hat2
      go_wp2
      go_roundw
      case rel => exact ⟨k + 1, by omega, by omega, .inr hc3, by go_num, HR.out.1, HR.out.2.1, HR.out.2.2⟩
      case measure => simp [intOf]; omega
    · have hfin : (numP n l).map u32v = (l.map (fun x => u32v (wordP x n))).take k ∧ (numP n l).length = k := by
        unfold numP
        split
        · rename_i h
          have hk : k = min l.length 5 := by omega
          have h5 : l.take k = l.take 5 := by
            rw [hk]
            rcases Nat.le_total l.length 5 with h | h
            · rw [Nat.min_eq_left h, List.take_of_length_le (Nat.le_refl _), List.take_of_length_le h]
            · rw [Nat.min_eq_right h]
          rw [← h5, ← List.map_take]
          refine ⟨by rw [List.map_map]; rfl, by simp; omega⟩
        · have : k = 0 := by omega
          subst this
          simp
      have HF := Lib.hid hfin
      clear hfin
      by_cases hc1 : k < l.length
      · have hc1' : (k : Int) < l.length := by omega
        by_cases hc2 : k < 5
        · have hc2' : (k : Int) < 5 := by omega
          have hc3 : ¬ 0 < n := by omega
          go_wp2
          go_ret
          refine ⟨u5, rfl, ?_, hfr, hm⟩
          rw [HF.out.1, HF.out.2]
          exact hown
        · have hc2' : ¬ (k : Int) < 5 := by omega
          go_wp2
          go_ret
          refine ⟨u5, rfl, ?_, hfr, hm⟩
          rw [HF.out.1, HF.out.2]
          exact hown
      · have hc1' : ¬ (k : Int) < l.length := by omega
        go_wp2
        go_ret
        refine ⟨u5, rfl, ?_, hfr, hm⟩
        rw [HF.out.1, HF.out.2]
        exact hown
end Go.Proofs.Ytldlolpbnfgdeaa
