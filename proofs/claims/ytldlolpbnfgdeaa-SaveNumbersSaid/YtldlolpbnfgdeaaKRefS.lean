/- The document's own objects (treadwheelref18.Ideal): contracts. -/
import Derived.Test.YtldlolpbnfgdeaaKAlloc
namespace Go.Proofs.Ytldlolpbnfgdeaa
open Go Go.RowKit

abbrev RRep (w : World) (p : Nat) (L : List SObj) (F : List Nat) : Prop := IRep 33 141 44 w p L F

section
variable {w : World} {p : Nat} {L : List SObj} {F : List Nat}
theorem has_yes (a : Option Addr) (n cap : Nat) (id : Int) (w : World) (hp : w.cell? ⟨p, 0, none⟩ = some (.slice a n cap)) (h4 : 4 ≤ id) (hlt : id - 4 < n) (hn : n ≤ 1073741824) :
    Calls Try.prog 88 #[.pointer (some ⟨p, 0, none⟩), .int .i64 id] w fun e w' => e = .returned (.bool true) ∧ w = w' := by
  have h5 : id < 4 + (n : Int) := by omega
  go_enter Try.func88, Try.ntmps88
  go_wp2
  go_ret
  exact ⟨by simp [h4, h5], rfl⟩
theorem has_no (a : Option Addr) (n cap : Nat) (id : Int) (w : World) (hp : w.cell? ⟨p, 0, none⟩ = some (.slice a n cap)) (h : id < 4 ∨ (n : Int) ≤ id - 4) (hid : -1073741824 ≤ id) (hid' : id ≤ 4294967296) (hn : n ≤ 1073741824) :
    Calls Try.prog 88 #[.pointer (some ⟨p, 0, none⟩), .int .i64 id] w fun e w' => e = .returned (.bool false) ∧ w = w' := by
  have h5 : ¬ (4 ≤ id ∧ id < 4 + (n : Int)) := by omega
  go_enter Try.func88, Try.ntmps88
  go_wp2
  all_goals (go_ret; first | exact ⟨rfl, rfl⟩ | exact ⟨by simp; omega, rfl⟩)
theorem r_class (id : Int) (h : RRep w p L F) (hid : -1073741824 ≤ id) (hid' : id ≤ 4294967296) (hn : L.length ≤ 1073741824) :
    Calls Try.prog 59 #[.pointer (some ⟨p, 0, none⟩), .int .i64 id] w fun e w' => e = .returned (.int .i64 (clsO L id)) ∧ w = w' := by
  obtain ⟨lv, vs, h, rfl⟩ := h
  cases ho : getO L id with
  | none =>
    obtain ⟨a, cap, rfl, hcell⟩ := h.slice
    rw [show clsO L id = -1 by unfold clsO; rw [ho]]
    have hb := getO_none ho
    go_enter Try.func59, Try.ntmps59
    go_wp2_with (go_at_call 88; refine (has_no _ _ _ _ _ hcell hb hid hid' hn).mono ?_; rintro e w' ⟨rfl, rfl⟩)
    go_ret
    exact ⟨rfl, rfl⟩
  | some o =>
    rw [show clsO L id = o.1 by unfold clsO; rw [ho]]
    obtain ⟨g, cap, v, rfl, h4, hlt, hcell, hc0, -, -, -⟩ := h.obj ho
    clear ho
    go_enter Try.func59, Try.ntmps59
    go_wp2_with (go_at_call 88; refine (has_yes _ _ _ _ _ hcell h4 hlt hn).mono ?_; rintro e w' ⟨rfl, rfl⟩)
    go_ret
    exact ⟨rfl, rfl⟩
theorem r_fields (id : Int) (h : RRep w p L F) (hid : -1073741824 ≤ id) (hid' : id ≤ 4294967296) (hn : L.length ≤ 1073741824) :
    Calls Try.prog 60 #[.pointer (some ⟨p, 0, none⟩), .int .i64 id] w fun e w' => e = .returned (.int .i64 (lenO L id)) ∧ w = w' := by
  obtain ⟨lv, vs, h, rfl⟩ := h
  cases ho : getO L id with
  | none =>
    obtain ⟨a, cap, rfl, hcell⟩ := h.slice
    rw [show lenO L id = -1 by unfold lenO; rw [ho]]
    have hb := getO_none ho
    go_enter Try.func60, Try.ntmps60
    go_wp2_with (go_at_call 88; refine (has_no _ _ _ _ _ hcell hb hid hid' hn).mono ?_; rintro e w' ⟨rfl, rfl⟩)
    go_ret
    exact ⟨rfl, rfl⟩
  | some o =>
    rw [show lenO L id = o.2.length by unfold lenO; rw [ho]]
    obtain ⟨g, cap, v, rfl, h4, hlt, hcell, -, hc1, -, hv⟩ := h.obj ho
    obtain ⟨a', cap', rfl, -, -⟩ := hv.val
    clear ho
    go_enter Try.func60, Try.ntmps60
    go_wp2_with (go_at_call 88; refine (has_yes _ _ _ _ _ hcell h4 hlt hn).mono ?_; rintro e w' ⟨rfl, rfl⟩)
    go_ret
    exact ⟨rfl, rfl⟩
theorem r_get (id i : Int) (h : RRep w p L F) (hid : -1073741824 ≤ id) (hid' : id ≤ 4294967296) (hn : L.length ≤ 1073741824) (hw : ∀ o ∈ L, o.2.length ≤ 62) :
    Calls Try.prog 61 #[.pointer (some ⟨p, 0, none⟩), .int .i64 id, .int .i64 i] w fun e w' => e = .returned (getVal (fldO L id i)) ∧ w = w' := by
  obtain ⟨lv, vs, h, rfl⟩ := h
  cases ho : getO L id with
  | none =>
    obtain ⟨a, cap, rfl, hcell⟩ := h.slice
    rw [show fldO L id i = none by unfold fldO; rw [ho]]
    have hb := getO_none ho
    go_enter Try.func61, Try.ntmps61
    go_wp2_with (go_at_call 88; refine (has_no _ _ _ _ _ hcell hb hid hid' hn).mono ?_; rintro e w' ⟨rfl, rfl⟩)
    all_goals (go_ret2; exact ⟨rfl, rfl⟩)
  | some o =>
    obtain ⟨g, cap, v, rfl, h4, hlt, hcell, -, hc1, -, hv⟩ := h.obj ho
    have hol : o.2.length ≤ 62 := hw o (by have := (getO_some ho).2.2; exact List.mem_of_getElem? this)
    by_cases hi : 0 ≤ i ∧ i < o.2.length
    · obtain ⟨hi0, hi1⟩ := hi
      obtain ⟨g', cap', u, rfl, hu, hcu⟩ := hv.cell (i := i.toNat) (by omega)
      have hx : o.2[i.toNat]? = some o.2[i.toNat] := List.getElem?_eq_getElem (by omega)
      rw [show fldO L id i = some o.2[i.toNat] by unfold fldO; rw [ho]; simp only; rw [if_pos hi0]; exact hx]
      rw [List.getElem?_map, hx] at hu
      simp only [Option.map_some, Option.some.injEq] at hu
      subst hu
      generalize o.2[i.toNat] = x at *
      clear ho hx
      go_enter Try.func61, Try.ntmps61
      go_wp2_with (go_at_call 88; refine (has_yes _ _ _ _ _ hcell h4 hlt hn).mono ?_; rintro e w' ⟨rfl, rfl⟩)
      all_goals (go_ret2; exact ⟨rfl, rfl⟩)
    · obtain ⟨a', cap', rfl, -, -⟩ := hv.val
      rw [show fldO L id i = none by
        unfold fldO; rw [ho]; simp only
        split
        · exact List.getElem?_eq_none (by omega)
        · rfl]
      clear ho
      by_cases hi0 : i < 0
      · go_enter Try.func61, Try.ntmps61
        go_wp2_with (go_at_call 88; refine (has_yes _ _ _ _ _ hcell h4 hlt hn).mono ?_; rintro e w' ⟨rfl, rfl⟩)
        all_goals (go_ret2; exact ⟨rfl, rfl⟩)
      · have hi1 : (o.2.length : Int) ≤ i := by omega
        go_enter Try.func61, Try.ntmps61
        go_wp2_with (go_at_call 88; refine (has_yes _ _ _ _ _ hcell h4 hlt hn).mono ?_; rintro e w' ⟨rfl, rfl⟩)
        all_goals (go_ret2; exact ⟨rfl, rfl⟩)
theorem r_put_no (id i : Int) (x : Nat) (h : RRep w p L F) (hid : -1073741824 ≤ id) (hid' : id ≤ 4294967296) (hn : L.length ≤ 1073741824) (hw : ∀ o ∈ L, o.2.length ≤ 62) (hx : fldO L id i = none ∨ x = 0) :
    Calls Try.prog 53 #[.pointer (some ⟨p, 0, none⟩), .int .i64 id, .int .i64 i, u32v x] w fun e w' => e = .returned (.bool false) ∧ w = w' := by
  have hg := r_get (w := w) id i h hid hid' hn hw
  cases hf : fldO L id i with
  | none =>
    rw [hf] at hg
    unfold getVal at hg
    clear h hf hx
    go_enter Try.func53, Try.ntmps53
    go_wp2_with (go_at_call 61; refine hg.mono ?_; rintro e w' ⟨rfl, rfl⟩)
    go_ret
    exact ⟨rfl, rfl⟩
  | some y =>
    rw [hf] at hg hx
    unfold getVal at hg
    have hx0 : x = 0 := by simpa using hx
    subst hx0
    unfold u32v at hg ⊢
    clear h hf hx
    go_enter Try.func53, Try.ntmps53
    go_wp2_with (go_at_call 61; refine hg.mono ?_; rintro e w' ⟨rfl, rfl⟩)
    go_ret
    exact ⟨rfl, rfl⟩
theorem r_put (id i : Int) (x y : Nat) (h : RRep w p L F) (hid : -1073741824 ≤ id) (hid' : id ≤ 4294967296) (hn : L.length ≤ 1073741824) (hw : ∀ o ∈ L, o.2.length ≤ 62) (hf : fldO L id i = some y) (hx0 : x ≠ 0) :
    Calls Try.prog 53 #[.pointer (some ⟨p, 0, none⟩), .int .i64 id, .int .i64 i, u32v x] w fun e w' =>
      e = .returned (.bool true) ∧ RRep w' p (putO L id i x) F ∧ Mod F w w' := by
  have hg := r_get (w := w) id i h hid hid' hn hw
  rw [hf] at hg
  unfold getVal at hg
  obtain ⟨lv, vs, h, rfl⟩ := h
  obtain ⟨o, ho, hi0, hi1, -⟩ := fldO_some hf
  obtain ⟨g, cap, v, rfl, h4, hlt, hcell, -, hc1, hvs, hv⟩ := h.obj ho
  have hol : o.2.length ≤ 62 := hw o (by have := (getO_some ho).2.2; exact List.mem_of_getElem? this)
  obtain ⟨g', cap', u, rfl, hu, hcu⟩ := hv.cell (i := i.toNat) (by omega)
  obtain ⟨_, _, cur', hv', hg', -⟩ := hv.form (by omega)
  cases hv'
  have hfz := frozen_of_blk hg' i.toNat
  have hfin := h.put ho hi0 hi1 hvs x
  have hm : g' ∈ irF p (.slice (some ⟨g, 0, none⟩) L.length cap) vs := by
    simp only [irF, List.mem_cons, List.mem_append, List.mem_flatMap]
    exact .inr (.inr ⟨_, List.mem_of_getElem? hvs, by simp [ob, Value.ownBlock]⟩)
  have hx0' : ((x : Int) == 0) = false := by simpa using hx0
  unfold u32v at hg hfin ⊢
  have Hfin := Lib.hid hfin
  clear hfin h hf ho hu hvs hv hg'
  go_enter Try.func53, Try.ntmps53
  go_wp2_with (go_at_call 61; refine hg.mono ?_; rintro e w' ⟨rfl, rfl⟩)
  go_ret
  exact ⟨rfl, ⟨_, _, Hfin.out, rfl⟩, (Mod.refl _ _).set _ (.inl hm)⟩
end

theorem info_robj : (Try.prog.info? 141).map (fun i => (i.zero, i.size, i.bytes)) = some (some (.agg #[.int .i64 0, .slice none 0 0]), 2, 32) := by kernel_rfl
theorem own_app_block {w : World} {e size n : Nat} {v : Value} {xs : List Value} (h : Own w e size v n xs) {b : Nat} {t : TypeId} {cs : Array Value} (hb : w.heap[b]? = some (.cells cs t (0, 0))) (hne : e ≠ t) : b ∉ ob v := by
  intro hm
  rcases h.2 with ⟨rfl, _⟩ | ⟨g, cap, cur, rfl, _, hh, _⟩
  · simp [ob, Value.ownBlock] at hm
  · simp [ob, Value.ownBlock] at hm
    subst hm
    rw [hh] at hb
    injection hb with hb
    injection hb with _ ht
    exact hne ht

section
variable {w : World} {p : Nat} {L : List SObj} {F : List Nat}
set_option maxHeartbeats 1000000 in
set_option maxRecDepth 100000 in
theorem r_alloc (cls : Int) (k : Nat) (h : RRep w p L F) (h0 : 0 ≤ cls) (h1 : cls ≤ 4095) (hk : k ≤ 62) (hn : L.length ≤ 1073741823) :
    Calls Try.prog 50 #[.pointer (some ⟨p, 0, none⟩), .int .i64 cls, .int .i64 (k : Int)] w fun e w' => ∃ F', e = .returned (.int .i64 (4 + L.length)) ∧
      RRep w' p (L ++ [(cls, List.replicate k 2)]) F' ∧ Mod F w w' ∧ (∀ b ∈ F', b ∈ F ∨ w.heap.size ≤ b) := by
  obtain ⟨lv, vs, h, rfl⟩ := h
  obtain ⟨a, cap, rfl, hcell⟩ := h.slice
  have hk0 : (0:Int) ≤ k := by omega
  have hk1 : (k:Int) ≤ 62 := by omega
  have hp := lt_of_blk h.hp
  go_enter Try.func50, Try.ntmps50
  go_wp2_with fail
  generalize hO : w.heap.size = O at *
  have HO := Lib.hid hO
  clear hO
  go_loopw [8] (fun i wr => ∃ (m : Nat) (fv : Value), m ≤ k ∧ i = .int .i64 m ∧ Hid (wr.heap[O]? = some (.cells #[.int .i64 cls, fv] 141 (0, 0))) ∧ Own wr 44 1 fv m (List.replicate m (.int .u32 2)) ∧ (∀ b ∈ ob fv, O < b) ∧ Mod [] w wr) (fun i _ => k - (intOf i).toNat)
  case atStart =>
    refine ⟨0, .slice none 0 0, by omega, rfl, ?_, Own.nil _ _ _, by simp [ob, Value.ownBlock], ?_⟩
    · exact HO.out ▸ heap_alloc_new w _
    · exact (Mod.refl _ _).step _
  case round =>
    obtain ⟨m, fv, hm, rfl, hblk, hown, hfv, hmod⟩ := hrel
    by_cases hlt : m < k
    · have hlt' : (m : Int) < k := by omega
      have hc0 : wr.cell? ⟨O, 1, none⟩ = some fv := by rw [cell_of_blk hblk.out]; rfl
      have hof : O < wr.heap.size := lt_of_blk hblk.out
      have hfO : O ∉ ob fv := fun h => by have := hfv O h; omega
      go_wp2_with (at_builtin; refine wpList_app1 rfl (.tmp 31) (.tmp 32) 29 rfl 44 _ 1 4 Try.underlying29 info_u32 rfl (by omega) _ _ _ [.int .u32 2] rfl hown _ rfl rfl rfl (by simp only [maxLen]; omega) (by omega) ?_)
      intro fv' w2 hown2 hm2 hat2
      have hblk2 : Hid (w2.heap[O]? = some (.cells #[.int .i64 cls, fv] 141 (0, 0))) := blk_mod hblk.out hm2 hfO
      have hfr := frozen_of_blk hblk2.out 1
      have hc2 : w2.cell? ⟨O, 1, none⟩ = some fv := by rw [cell_of_blk hblk2.out]; rfl
      obtain ⟨a2, cap2, rfl, -, -⟩ := hown2.val
      have hfO2 : O ∉ ob (.slice a2 (m + 1) cap2) := fun h => (hat2 O h).elim hfO (fun h => by omega)
      have HR : Hid ((w2.setCell ⟨O, 1, none⟩ (.slice a2 (m + 1) cap2)).heap[O]? = some (.cells #[.int .i64 cls, .slice a2 (m + 1) cap2] 141 (0, 0)) ∧
          Own (w2.setCell ⟨O, 1, none⟩ (.slice a2 (m + 1) cap2)) 44 1 (.slice a2 (m + 1) cap2) (m + 1) (List.replicate (m + 1) (.int .u32 2)) ∧ (∀ b ∈ ob (.slice a2 (m + 1) cap2), O < b) ∧ Mod [] w (w2.setCell ⟨O, 1, none⟩ (.slice a2 (m + 1) cap2))) := by
        refine ⟨by have := blk_set hblk2.out 1 (.slice a2 (m + 1) cap2); simpa using this, ?_, ?_, ?_⟩
        · have := hown2.far (a := ⟨O, 1, none⟩) hfO2 (.slice a2 (m + 1) cap2)
          rw [← List.replicate_succ'] at this
          exact this
        · intro b hb
          exact (hat2 b hb).elim (hfv b) (fun h => by omega)
        · have hO' : w.heap.size ≤ O := by have := HO.out; omega
          refine (hmod.trans hm2 (fun b hb => .inr ?_)).set _ (.inr hO')
          have := hfv b hb
          omega
      clear hblk hblk2 hown hown2 hm2 hat2
      go_wp2
      go_roundw
      case rel => exact ⟨m + 1, _, by omega, by go_num, HR.out.1, HR.out.2.1, HR.out.2.2.1, HR.out.2.2.2⟩
      case measure => simp [intOf]; omega
    · have hlt' : ¬ (m : Int) < k := by omega
      obtain rfl : m = k := by omega
      go_wp2
      have HOs := HO.out
      have hp3 := blk_mod h.hp hmod (by simp)
      have hcp3 : wr.cell? ⟨p, 0, none⟩ = some (.slice a L.length cap) := by rw [cell_of_blk hp3]; rfl
      have hO0 : wr.cell? ⟨O, 0, none⟩ = some (.int .i64 cls) := by rw [cell_of_blk hblk.out]; rfl
      have hO1 : wr.cell? ⟨O, 1, none⟩ = some fv := by rw [cell_of_blk hblk.out]; rfl
      have hof : O < wr.heap.size := lt_of_blk hblk.out
      have hpO : p < wr.heap.size := lt_of_blk hp3
      obtain ⟨fa, fcap, rfl, -, -⟩ := hown.val
      clear HOs
      refine wp_plan [0, 1, 2, 3, 4, 5] [6, 7, 8, 9, 10] (fun w' => w'.cell? ⟨p, 0, none⟩ = some (.slice a L.length cap) ∧ w'.cell? ⟨O, 0, none⟩ = some (.int .i64 cls) ∧ w'.cell? ⟨O, 1, none⟩ = some (.slice fa m fcap)) (by kernel_rfl) (by kernel_rfl) ⟨hcp3, hO0, hO1⟩ ?_
      simp only [pickAll, List.filterMap_cons, List.filterMap_nil, List.getElem?_cons_succ, List.getElem?_cons_zero]
      repeat (refine' wpTake_step rfl (fun w hS => by obtain ⟨hS1, hS2, hS3⟩ := hS; go_simp; rfl) ?_; simp only [Act.put, List.setIfInBounds_toArray, List.set_cons_zero, List.set_cons_succ])
      refine wpTake_nil ?_
      refine wpRest_one (by kernel_rfl) (fun K hK => ?_)
      go_wp2
      refine hK _ _ ⟨(World.cell?_alloc_lt _ _ _ hpO).trans hcp3, (World.cell?_alloc_lt _ _ _ hof).trans hO0, (World.cell?_alloc_lt _ _ _ hof).trans hO1⟩ ?_
      clear hK K
      refine wpRest_one (by kernel_rfl) (fun K hK => ?_)
      have hown3 := h.hl.mod (hmod.drew) (by simp)
      have hnd := h.nd
      simp only [List.nodup_cons, List.mem_append, List.nodup_append, not_or] at hnd
      change wpList _ _ _ _ _ (wr.drew.alloc _)
      refine wpList_app1 rfl (.tmp 39) (.tmp 41) 31 rfl 141 _ 2 32 Try.underlying31 info_robj rfl (by omega) _ _ _ [.int .i64 cls, .slice fa m fcap] rfl hown3 _ rfl rfl rfl (by simp only [maxLen]; omega) (by omega) ?_
      intro lv' w4 hown4 hm4 hat4
      have hOlv : O ∉ ob (.slice a L.length cap) := fun hb => by have := h.hl.lt' O hb; have := HO.out; omega
      have hp4 : w4.heap[p]? = _ := blk_mod (w := wr.drew) hp3 hm4 hnd.1.1
      have hO4 : w4.heap[O]? = _ := blk_mod (w := wr.drew) hblk.out hm4 hOlv
      have hc4 : w4.cell? ⟨p, 0, none⟩ = some (.slice a L.length cap) := by rw [cell_of_blk hp4]; rfl
      have hf4 := frozen_of_blk hp4 0
      refine wpList_nil ?_
      refine hK _ _ ⟨hc4, by rw [cell_of_blk hO4]; rfl, by rw [cell_of_blk hO4]; rfl⟩ ?_
      clear hK K
      obtain ⟨a', cap', rfl, hcap', -⟩ := hown4.val
      have hfl : ∀ b ∈ ob (.slice fa m fcap), b ∉ ob (.slice a L.length cap) := fun b hb hb' => by have := hfv b hb; have := h.hl.lt' b hb'; have := HO.out; omega
      have hfm := hown.mod (w' := w4) (F := ob (.slice a L.length cap)) ((Mod.refl _ _).drew.trans hm4 (fun b hb => .inl hb)) hfl
      have hwF : Mod (irF p (.slice a L.length cap) vs) w (w4.setCell ⟨p, 0, none⟩ (.slice a' (L.length + 1) cap')) := by
        refine ((hmod.drew.mono (by simp)).trans hm4 ?_).set _ (.inl (by simp [irF]))
        intro b hb; exact .inl (by simp only [irF, List.mem_cons, List.mem_append]; exact .inr (.inl hb))
      have hfin : IR 33 141 44 (w4.setCell ⟨p, 0, none⟩ (.slice a' (L.length + 1) cap')) p (.slice a' (L.length + 1) cap') (vs ++ [.slice fa m fcap]) (L ++ [(cls, List.replicate m 2)]) ∧
          ∀ b ∈ irF p (.slice a' (L.length + 1) cap') (vs ++ [.slice fa m fcap]), b ∈ irF p (.slice a L.length cap) vs ∨ w.heap.size ≤ b := by
        have hpa : p ∉ ob (.slice a' (L.length + 1) cap') := fun hb => (hat4 p hb).elim hnd.1.1 (fun e => by have e' : wr.heap.size ≤ p := e; omega)
        have hpf : p ∉ ob (.slice fa m fcap) := fun hb => by have := hfv p hb; have := HO.out; omega
        refine h.grow ?_ ?_ ?_ ?_ ?_ ?_ ?_
        · have := blk_set hp4 0 (.slice a' (L.length + 1) cap'); simpa using this
        · exact hown4.far hpa _
        · intro b hb
          have hbl := IRep.lt (L := L) (F := irF p (.slice a L.length cap) vs) ⟨_, vs, h, rfl⟩ b (by simp only [irF, List.mem_cons, List.mem_append]; exact .inr (.inr hb))
          rw [Below.heap_setCell _ _ _ _ (fun e => hnd.1.2 (by have e' : b = p := e; rw [← e']; exact hb)), hm4.block b (Nat.lt_of_lt_of_le hbl hmod.size) (fun h' => hnd.2.2.2 b h' b hb rfl)]
          exact hmod.block b hbl (by simp)
        · have := hfm.far (a := ⟨p, 0, none⟩) hpf (.slice a' (L.length + 1) cap')
          simpa [u32v] using this
        · intro b hb
          exact (hat4 b hb).imp (fun h => h) (fun e => by have e' : wr.heap.size ≤ b := e; have := hmod.size; omega)
        · intro b hb; have := hfv b hb; have := HO.out; omega
        · intro b hb hb'
          rcases hat4 b hb' with h' | h'
          · exact hfl b hb h'
          · have := hown.lt' b hb
            have e' : wr.heap.size ≤ b := h'
            omega
      have Hfin := Lib.hid hfin
      have HwF := Lib.hid hwF
      clear hfin hwF hp4 hO4 hp3 h hown3 hm4 hat4 hown4 hnd hfm hown hblk
      refine wpRest_last (by kernel_rfl) ?_
      go_wp2
      refine NoP_normal ?_
      go_wp2
      go_ret
      refine ⟨_, ?_, ⟨_, _, Hfin.out.1, rfl⟩, HwF.out, Hfin.out.2⟩
      simp
      omega
end
end Go.Proofs.Ytldlolpbnfgdeaa
