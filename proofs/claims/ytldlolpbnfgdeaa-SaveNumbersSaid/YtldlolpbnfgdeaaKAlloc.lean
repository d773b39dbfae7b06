/- store.Ideal.Alloc. -/
import Derived.Test.YtldlolpbnfgdeaaKStore
import Derived.Test.YtldlolpbnfgdeaaKRepeat
namespace Go.Proofs.Ytldlolpbnfgdeaa
open Go Go.RowKit

theorem info_sobj : (Try.prog.info? 105).map (fun i => (i.zero, i.size, i.bytes)) = some (some (.agg #[.int .i64 0, .slice none 0 0]), 2, 32) := by kernel_rfl

section
variable {w : World} {p : Nat} {L : List SObj} {F : List Nat}
set_option maxHeartbeats 1000000 in
set_option maxRecDepth 100000 in
theorem s_alloc (cls : Int) (k : Nat) (h : SRep w p L F) (h0 : 0 ≤ cls) (h1 : cls ≤ 4095) (hk : k ≤ 62) (hn : L.length ≤ 1073741823) :
    Calls Try.prog 49 #[.pointer (some ⟨p, 0, none⟩), .int .i64 cls, .int .i64 (k : Int)] w fun e w' => ∃ F', e = .returned (.int .i64 (4 + L.length)) ∧
      SRep w' p (L ++ [(cls, List.replicate k 2)]) F' ∧ Mod F w w' ∧ (∀ b ∈ F', b ∈ F ∨ w.heap.size ≤ b) := by
  obtain ⟨lv, vs, h, rfl⟩ := h
  obtain ⟨a, cap, rfl, hcell⟩ := h.slice
  obtain ⟨i, hi, hz0, hz1, hz2⟩ := info_parts info_sobj
  have hk0 : (0:Int) ≤ k := by omega
  have hk1 : (k:Int) ≤ 62 := by omega
  have hp := lt_of_blk h.hp
  go_enter Try.func49, Try.ntmps49
  go_wp2_with fail
  refine wp_plan [0, 1, 2, 3, 4, 5, 7] [6, 8, 9, 10, 11, 12, 13, 14] (fun w' => w'.cell? ⟨p, 0, none⟩ = some (.slice a L.length cap)) (by kernel_rfl) (by kernel_rfl) hcell ?_
  simp only [pickAll, List.filterMap_cons, List.filterMap_nil, List.getElem?_cons_succ, List.getElem?_cons_zero]
  repeat (refine' wpTake_step rfl (fun w _ => by go_simp; rfl) ?_; simp only [Act.put, List.setIfInBounds_toArray, List.set_cons_zero, List.set_cons_succ])
  refine wpTake_nil ?_
  refine wpRest_one (by kernel_rfl) (fun K hK => ?_)
  go_wp2
  refine hK _ _ ((World.cell?_alloc_lt _ _ _ hp).trans hcell) ?_
  clear hK K
  have hm1 : Mod [] w (w.alloc (.cells #[.int .u32 2] 44)).drew := ((Mod.refl _ _).step _).drew
  have hc1 : (w.alloc (.cells #[.int .u32 2] 44)).drew.cell? ⟨w.heap.size, 0, none⟩ = some (.int .u32 2) := by
    show (w.alloc _).cell? _ = _
    rw [cell_of_blk (heap_alloc_new w _)]; rfl
  have hz1' : (w.alloc (.cells #[.int .u32 2] 44)).drew.heap.size = w.heap.size + 1 := by simp
  generalize (w.alloc (.cells #[.int .u32 2] 44)).drew = w1 at *
  have Hz1 := Lib.hid hz1'
  clear hz1'
  refine wpRest_one (by kernel_rfl) (fun K hK => ?_)
  go_wp2_with (go_at_call 84; refine (repeat_u32 2 _ k _ hk hc1).mono ?_; rintro e w2 ⟨B, rfl, hB, hBs, hBl⟩)
  have hm2 : Mod [] w w2 := hm1.trans (Mod.of_below hBl) (by simp)
  refine hK _ _ ((hm2.cell hp (by simp)).trans hcell) ?_
  clear hK K
  refine wpRest_one (by kernel_rfl) (fun K hK => ?_)
  go_wp2
  refine hK _ _ ((hm2.cell hp (by simp)).trans hcell) ?_
  clear hK K
  refine wpRest_one (by kernel_rfl) (fun K hK => ?_)
  go_wp2
  have hm3 : Mod [] w (w2.alloc (.cells #[.int .i64 cls, .slice (some ⟨B, 0, none⟩) k k] 105)) := hm2.step _
  refine hK _ _ ((hm3.cell hp (by simp)).trans hcell) ?_
  clear hK K
  have hn3 : (w2.alloc (.cells #[.int .i64 cls, .slice (some ⟨B, 0, none⟩) k k] 105)).heap[w2.heap.size]? = some (.cells #[.int .i64 cls, .slice (some ⟨B, 0, none⟩) k k] 105 (0, 0)) := heap_alloc_new w2 _
  have hB3 := blk_alloc hB (.cells #[.int .i64 cls, .slice (some ⟨B, 0, none⟩) k k] 105)
  have hsz3 : (w2.alloc (.cells #[.int .i64 cls, .slice (some ⟨B, 0, none⟩) k k] 105)).heap.size = w2.heap.size + 1 := by simp
  generalize (w2.alloc (.cells #[.int .i64 cls, .slice (some ⟨B, 0, none⟩) k k] 105)) = w3 at *
  have hwB : w.heap.size ≤ B := by have := Hz1.out; have := hBs; omega
  have hs2 := hm2.size
  have hown3 := h.hl.mod hm3 (by simp)
  have hp3 := blk_mod h.hp hm3 (by simp)
  have Hsz3 := Lib.hid hsz3
  clear hsz3
  refine wpRest_one (by kernel_rfl) (fun K hK => ?_)
  refine wpList_app rfl (.tmp 25) (.tmp 31) 136 rfl 105 _ 2 32 Try.underlying136 info_sobj rfl (by omega) _ _ _ rfl hown3 ⟨w2.heap.size, 0, none⟩ 1 1 [.int .i64 cls, .slice (some ⟨B, 0, none⟩) k k] rfl rfl ?c1 ?c2 ?c3 ?c4 ?_
  case c1 =>
    intro j u hu
    rw [show (⟨w2.heap.size, 0, none⟩ : Addr).add j = ⟨w2.heap.size, j, none⟩ by unfold Addr.add; split <;> simp_all, cell_of_blk hn3]
    simpa using hu
  case c2 => intro u hu; simp at hu; rcases hu with rfl | rfl <;> rfl
  case c3 => simp only [maxLen]; omega
  case c4 => omega
  intro lv' w4 hown4 hm4 hat4
  have hnd := h.nd
  simp only [List.nodup_cons, List.mem_append, List.nodup_append, not_or] at hnd
  have hp4 := blk_mod hp3 hm4 hnd.1.1
  have hc4 : w4.cell? ⟨p, 0, none⟩ = some (.slice a L.length cap) := by rw [cell_of_blk hp4]; rfl
  have hf4 := frozen_of_blk hp4 0
  refine wpList_nil ?_
  refine hK _ _ hc4 ?_
  clear hK K
  obtain ⟨a', cap', rfl, hcap', -⟩ := hown4.val
  have hB4 := blk_mod hB3 hm4 (fun hb => by have := h.hl.lt' B hb; omega)
  have hwF : Mod (irF p (.slice a L.length cap) vs) w (w4.setCell ⟨p, 0, none⟩ (.slice a' (L.length + 1) cap')) := by
    refine ((hm3.mono (by simp)).trans hm4 ?_).set _ (.inl (by simp [irF]))
    intro b hb; exact .inl (by simp only [irF, List.mem_cons, List.mem_append]; exact .inr (.inl hb))
  have hfin : IR 138 105 44 (w4.setCell ⟨p, 0, none⟩ (.slice a' (L.length + 1) cap')) p (.slice a' (L.length + 1) cap') (vs ++ [.slice (some ⟨B, 0, none⟩) k k]) (L ++ [(cls, List.replicate k 2)]) ∧
      ∀ b ∈ irF p (.slice a' (L.length + 1) cap') (vs ++ [.slice (some ⟨B, 0, none⟩) k k]), b ∈ irF p (.slice a L.length cap) vs ∨ w.heap.size ≤ b := by
    have hpB : p ≠ B := by omega
    have hpa : p ∉ ob (.slice a' (L.length + 1) cap') := fun hb => (hat4 p hb).elim hnd.1.1 (fun e => by have := Hsz3.out; have := lt_of_blk hn3; have := hm3.size; omega)
    refine h.grow ?_ ?_ ?_ ?_ ?_ ?_ ?_
    · have := blk_set hp4 0 (.slice a' (L.length + 1) cap'); simpa using this
    · exact hown4.far hpa _
    · intro b hb
      rw [Below.heap_setCell _ _ _ _ (fun e => hnd.1.2 (by have e' : b = p := e; rw [← e']; exact hb)), hm4.block b ?_ (fun h' => hnd.2.2.2 b h' b hb rfl), hm3.block b ?_ (by simp)]
      · exact IRep.lt (L := L) (F := irF p (.slice a L.length cap) vs) ⟨_, vs, h, rfl⟩ b (by simp only [irF, List.mem_cons, List.mem_append]; exact .inr (.inr hb))
      · have := IRep.lt (L := L) (F := irF p (.slice a L.length cap) vs) ⟨_, vs, h, rfl⟩ b (by simp only [irF, List.mem_cons, List.mem_append]; exact .inr (.inr hb))
        have := hm3.size
        omega
    · refine ⟨by simp, .inr ⟨B, k, (List.replicate k (Value.int .u32 2)).toArray, by simp, Nat.zero_le _, blk_far hB4 hpB.symm _, by simp, by simp only [maxLen]; simp; omega, by simp, ?_⟩⟩
      simp [u32v]
    · intro b hb
      exact (hat4 b hb).imp (fun h => h) (fun e => by have := hm3.size; omega)
    · intro b hb; simp [ob, Value.ownBlock] at hb; omega
    · intro b hb hb'
      simp [ob, Value.ownBlock] at hb
      rw [hb] at hb'
      rcases hat4 B hb' with h' | h'
      · have := h.hl.lt' B h'; omega
      · have := lt_of_blk hB3; omega
  have Hfin := Lib.hid hfin
  have HwF := Lib.hid hwF
  clear hfin hwF hp4 hB4 hB3 hn3 hp3 h hown3 hm4 hm3 hat4 hown4 hnd
  refine wpRest_last (by kernel_rfl) ?_
  go_wp2
  refine NoP_normal ?_
  go_wp2
  go_ret
  refine ⟨_, ?_, ⟨_, _, Hfin.out.1, rfl⟩, HwF.out, Hfin.out.2⟩
  simp
  omega
end
end Go.Proofs.Ytldlolpbnfgdeaa
