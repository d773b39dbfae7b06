/- slices.Repeat at one word. -/
import Derived.Test.YtldlolpbnfgdeaaKBase
import Derived.Test.YtldlolpbnfgdeaaShelf
namespace Go.Proofs.Ytldlolpbnfgdeaa
open Go Go.RowKit

theorem mul_one_ (k : Nat) (hk : k ≤ 62) (w : World) : Calls Try.prog 101 #[.int .u64 1, .int .u64 (k : Int)] w fun e w' => e = .returned (.tuple #[.int .u64 0, .int .u64 (k : Int)]) ∧ w = w' := by
  have h := Try.bits_Mul 1 k (by omega) (by omega) w
  rw [show 1 * k / 18446744073709551616 = 0 by omega, show 1 * k % 18446744073709551616 = k by omega] at h
  exact h.mono fun e w' ⟨h1, h2⟩ => ⟨h1, h2.symm⟩

theorem info_u32 : (Try.prog.info? 44).map (fun i => (i.zero, i.size, i.bytes)) = some (some (.int .u32 0), 1, 4) := by kernel_rfl

theorem splice_rep {α : Type} (v z : α) (k m j : Nat) (hm : m + j ≤ k) : splice (List.replicate m v ++ List.replicate (k - m) z) m (List.replicate j v) = List.replicate (m + j) v ++ List.replicate (k - (m + j)) z := by
  unfold splice
  rw [List.take_append_of_le_length (by simp), List.take_of_length_le (by simp), List.drop_append, List.drop_of_length_le (by simp)]
  simp only [List.length_replicate, List.nil_append, List.drop_replicate]
  rw [← List.append_assoc, List.replicate_append_replicate]
  congr 2
  omega

set_option maxHeartbeats 1000000 in
set_option maxRecDepth 100000 in
theorem repeat_u32 (v : Int) (a : Addr) (k : Nat) (w : World) (hk : k ≤ 62) (hv : w.cell? a = some (.int .u32 v)) :
    Calls Try.prog 84 #[.slice (some a) 1 1, .int .i64 (k : Int)] w fun e w' => ∃ B, e = .returned (.slice (some ⟨B, 0, none⟩) k k) ∧ w'.heap[B]? = some (.cells (List.replicate k (Value.int .u32 v)).toArray 44 (0, 0)) ∧ w.heap.size ≤ B ∧ Below w.heap.size w w' := by
  have hk0 : (0:Int) ≤ k := by omega
  have hk1 : (k:Int) ≤ 62 := by omega
  obtain ⟨i, hi, hz0, hz1, hz2⟩ := info_parts info_u32
  have hv1 : ∀ o, (w.alloc o).cell? a = some (.int .u32 v) := fun o => (World.cell?_alloc_lt _ _ _ (World.block_lt_of_cell? w a hv)).trans hv
  go_enter Try.func84, Try.ntmps84
  go_wp2_with (first | (go_at_call 101; refine (mul_one_ k hk _).mono ?_; rintro e w' ⟨rfl, rfl⟩) | (at_make; refine wpList_make_row _ rfl _ _ 29 rfl 44 i (.int .u32 0) Try.underlying29 hi hz0 hz1 rfl .i64 .i64 k rfl rfl (by rw [hz2]; omega) (by omega) ?_) | (with_reducible refine wpList_copy_splice rfl (.tmp 31) (.tmp 32) 29 29 rfl 44 Try.underlying29 (by rw [hi]; simp [hz1]) _ _ _ _ _ _ rfl rfl w.heap.size 0 (List.replicate k (.int .u32 0)) 44 ?c1 (List.replicate (min 1 k) (.int .u32 v)) ?c2 ?c3 ?c4 ?c5 w.heap.size w ?c6 (Nat.le_refl _) ?_))
  case c1 => rw [madeCells_one]; exact heap_alloc_new w _
  case c2 => simp [Nat.min_def]
  case c3 =>
    intro _ j u hu
    have hj : j = 0 ∧ u = .int .u32 v := by
      rw [List.getElem?_replicate] at hu
      split at hu
      · cases hu; exact ⟨by omega, rfl⟩
      · cases hu
    obtain ⟨rfl, rfl⟩ := hj
    exact hv1 _
  case c4 => simp; omega
  case c5 => intro u hu; rw [List.eq_of_mem_replicate hu]; rfl
  case c6 => exact (Below.refl _ _).alloc (Nat.le_refl _) _
  intro w1 hg1 hB1
  have HG : Hid (w1.heap[w.heap.size]? = some (.cells (List.replicate (min 1 k) (Value.int .u32 v) ++ List.replicate (k - min 1 k) (Value.int .u32 0)).toArray 44 (0, 0))) := by
    have := hg1.out
    have hs := splice_rep (Value.int .u32 v) (Value.int .u32 0) k 0 (min 1 k) (by omega)
    simp only [List.replicate_zero, List.nil_append, Nat.sub_zero, Nat.zero_add] at hs
    rw [hs] at this
    exact this
  clear hg1
  go_wp2
  generalize hBB : w.heap.size = B at *
  have HBB := Lib.hid hBB
  clear hBB
  go_loopw [8] (fun n wr => ∃ m : Nat, m ≤ k ∧ (0 < k → 0 < m) ∧ n = .int .i64 m ∧ Hid (wr.heap[B]? = some (.cells (List.replicate m (Value.int .u32 v) ++ List.replicate (k - m) (Value.int .u32 0)).toArray 44 (0, 0))) ∧ Below B w wr) (fun n _ => k - (intOf n).toNat)
  case atStart => exact ⟨min 1 k, by omega, by omega, rfl, HG, hB1⟩
  case round =>
    obtain ⟨m, hm, hm0, rfl, hg, hB⟩ := hrel
    by_cases hlt : m < k
    · have hlt' : (m : Int) < k := by omega
      have hm0' : 0 < m := hm0 (by omega)
      go_wp2
      refine wp_plan [0, 1, 2, 3, 4, 5, 6] [7, 8, 9] (fun _ => True) (by kernel_rfl) (by kernel_rfl) trivial ?_
      simp only [pickAll, List.filterMap_cons, List.filterMap_nil, List.getElem?_cons_succ, List.getElem?_cons_zero]
      repeat (refine' wpTake_step rfl (fun w _ => by go_simp; rfl) ?_; simp only [Act.put, List.setIfInBounds_toArray, List.set_cons_zero, List.set_cons_succ])
      refine wpTake_nil (wpRest_free (fun _ => trivial) _ _ _ _ rfl ?_)
      refine wpList_copy_splice rfl (.tmp 41) (.tmp 44) 29 29 rfl 44 Try.underlying29 (by rw [hi]; simp [hz1]) _ _ _ _ _ _ rfl rfl B m _ 44 hg.out (List.replicate (min m (k - m)) (.int .u32 v)) (by simp [Nat.min_def]) ?c3 ?c4 ?c5 B w hB.drew (Nat.le_refl _) ?_
      case c3 =>
        intro _
        refine ⟨if_neg (by omega), _, rfl, fun j u hu => ?_⟩
        rw [List.getElem?_replicate] at hu
        split at hu
        · cases hu
          rw [show (⟨B, 0, none⟩ : Addr).add j = ⟨B, j, none⟩ by unfold Addr.add; split <;> simp_all]
          have := cell_of_blk hg.out j
          rw [show wr.drew.cell? ⟨B, j, none⟩ = wr.cell? ⟨B, j, none⟩ from rfl, this]
          simp only [List.getElem?_toArray]
          rw [List.getElem?_append_left (by simp; omega), List.getElem?_replicate, if_pos (by omega)]
        · cases hu
      case c4 => simp; omega
      case c5 => intro u hu; rw [List.eq_of_mem_replicate hu]; rfl
      intro w2 hg2 hB2
      have HG2 : Hid (w2.heap[B]? = some (.cells (List.replicate (m + min m (k - m)) (Value.int .u32 v) ++ List.replicate (k - (m + min m (k - m))) (Value.int .u32 0)).toArray 44 (0, 0))) := by
        have := hg2.out
        rw [splice_rep _ _ k m (min m (k - m)) (by omega)] at this
        exact this
      clear hg2 hg
      simp only [List.length_replicate]
      generalize hq : min m (k - m) = q at *
      have hq0 : 0 < q := by omega
      have hqk : m + q ≤ k := by omega
      clear hq
      go_wp2
      go_roundw
      case rel => exact ⟨m + q, by omega, by omega, by go_num, HG2, hB2⟩
      case measure => simp [intOf]; omega
    · have hkm : ¬ (m : Int) < k := by omega
      go_wp2
      obtain rfl : m = k := by omega
      have H := hg.out
      rw [Nat.sub_self, List.replicate_zero, List.append_nil] at H
      have H' := Lib.hid H
      clear H hg
      go_ret
      rw [HBB.out]
      exact ⟨B, rfl, H'.out, Nat.le_refl _, hB⟩
end Go.Proofs.Ytldlolpbnfgdeaa
