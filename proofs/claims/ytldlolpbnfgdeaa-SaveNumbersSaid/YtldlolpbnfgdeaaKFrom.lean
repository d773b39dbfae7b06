/- save.walk.from: depth first. -/
import Derived.Test.YtldlolpbnfgdeaaKAlloc
import Derived.Test.YtldlolpbnfgdeaaKWord
import Derived.Test.YtldlolpbnfgdeaaKKeys
namespace Go.Proofs.Ytldlolpbnfgdeaa
open Go Go.RowKit

/-- Depth first. -/
def dfs (L : List SObj) : Nat → Nat → List Int → List Int
  | 0, _, out => out
  | n + 1, x, out => match idO x with
    | none => out
    | some id => if (id : Int) ∈ out then out else match getO L id with
      | none => out
      | some o => o.2.foldl (fun acc f => dfs L n f acc) (out ++ [(id : Int)])

theorem length_le_of_sub {α : Type} [DecidableEq α] : ∀ (l m : List α), l.Nodup → (∀ x ∈ l, x ∈ m) → l.length ≤ m.length
  | [], _, _, _ => Nat.zero_le _
  | a :: l, m, hn, hs => by
    rw [List.nodup_cons] at hn
    have ha : a ∈ m := hs a (by simp)
    have := length_le_of_sub l (m.erase a) hn.2 (fun x hx => by
      have hxa : x ≠ a := fun e => hn.1 (e ▸ hx)
      exact (List.mem_erase_of_ne hxa).2 (hs x (by simp [hx])))
    rw [List.length_erase_of_mem ha] at this
    have hp : 0 < m.length := List.length_pos_of_mem ha
    simp only [List.length_cons]
    omega
theorem valid_le (L : List SObj) (out : List Int) (hn : out.Nodup) (hv : ∀ i ∈ out, (getO L i).isSome) : out.length ≤ L.length := by
  have h1 : (out.map fun i => (i - 4).toNat).Nodup := by
    unfold List.Nodup at hn ⊢
    rw [List.pairwise_map]
    refine hn.imp_of_mem fun ha hb hne e => ?_
    obtain ⟨o, ho⟩ := Option.isSome_iff_exists.1 (hv _ ha)
    obtain ⟨o', ho'⟩ := Option.isSome_iff_exists.1 (hv _ hb)
    have := (getO_some ho).1
    have := (getO_some ho').1
    omega
  have := length_le_of_sub _ (List.range L.length) h1 (fun x hx => by
    obtain ⟨i, hi, rfl⟩ := List.mem_map.1 hx
    obtain ⟨o, ho⟩ := Option.isSome_iff_exists.1 (hv i hi)
    exact List.mem_range.2 (getO_some ho).2.1)
  simpa using this
theorem foldl_keeps' {α β : Type} (P : β → Prop) (f : β → α → β) (hf : ∀ b a, P b → P (f b a)) : ∀ (l : List α) (b : β), P b → P (l.foldl f b)
  | [], _, h => h
  | a :: l, b, h => foldl_keeps' P f hf l (f b a) (hf b a h)
theorem dfs_good (L : List SObj) : ∀ (n x : Nat) (out : List Int), out.Nodup → (∀ i ∈ out, (getO L i).isSome) →
    (dfs L n x out).Nodup ∧ (∀ i ∈ dfs L n x out, (getO L i).isSome) ∧ out.length ≤ (dfs L n x out).length
  | 0, _, out, h1, h2 => ⟨h1, h2, Nat.le_refl _⟩
  | n + 1, x, out, h1, h2 => by
    unfold dfs
    cases hi : idO x with
    | none => exact ⟨h1, h2, Nat.le_refl _⟩
    | some id =>
      simp only
      split
      · exact ⟨h1, h2, Nat.le_refl _⟩
      · rename_i hm
        cases ho : getO L (id : Int) with
        | none => exact ⟨h1, h2, Nat.le_refl _⟩
        | some o =>
          simp only
          refine foldl_keeps' (fun acc : List Int => acc.Nodup ∧ (∀ i ∈ acc, (getO L i).isSome) ∧ out.length ≤ acc.length) _ (fun b a hb => ?_) o.2 _ ⟨?_, ?_, by simp⟩
          · have := dfs_good L n a b hb.1 hb.2.1
            exact ⟨this.1, this.2.1, Nat.le_trans hb.2.2 this.2.2⟩
          · rw [List.nodup_append]
            exact ⟨h1, by simp, fun a ha b hb e => by simp at hb; subst hb; subst e; exact hm ha⟩
          · intro i hi'
            rcases List.mem_append.1 hi' with h | h
            · exact h2 i h
            · simp at h; subst h; rw [ho]; rfl

theorem m_class (a : Addr) (w : World) : (method 294 25 (.pointer (some a)) "Class").run Try.prog w = .ok (26, .pointer (some a)) w := by kernel_rfl
theorem m_fields (a : Addr) (w : World) : (method 294 25 (.pointer (some a)) "Fields").run Try.prog w = .ok (23, .pointer (some a)) w := by kernel_rfl
theorem m_get (a : Addr) (w : World) : (method 294 25 (.pointer (some a)) "Get").run Try.prog w = .ok (24, .pointer (some a)) w := by kernel_rfl

theorem info_int : (Try.prog.info? 3).map (fun i => (i.zero, i.size, i.bytes)) = some (some (.int .i64 0), 1, 8) := by kernel_rfl
def boolv (b : Bool) : Value := .bool b
structure WalkR (w : World) (q p : Nat) (L : List SObj) (F : List Nat) (mb : Nat) (ov : Value) (out : List Int) : Prop where
  s : SRep w p L F
  blk : w.heap[q]? = some (.cells #[.iface 25 (.pointer (some ⟨p, 0, none⟩)), .map (some mb), ov] 92 (0, 0))
  met : MapR w mb i64v boolv (out.map fun i => (i, true))
  out : Own w 3 1 ov out.length (out.map i64v)
  dj : ∀ b ∈ F, b ≠ q ∧ b ≠ mb ∧ b ∉ ob ov
  dq : q ≠ mb ∧ q ∉ ob ov ∧ mb ∉ ob ov

set_option maxHeartbeats 1000000 in
set_option maxRecDepth 100000 in
theorem from_any (L : List SObj) (hL : L.length ≤ 1000) (hw : ∀ o ∈ L, o.2.length ≤ 62 ∧ ∀ f ∈ o.2, f < 4294967296) (hcl : ∀ o ∈ L, 0 ≤ o.1) (n : Nat) : ∀ (x : Nat) (q p mb : Nat) (F : List Nat) (ov : Value) (out : List Int) (w : World), x < 4294967296 → WalkR w q p L F mb ov out →
    L.length - out.length < n → out.Nodup → (∀ i ∈ out, (getO L i).isSome) →
    Calls Try.prog 54 #[.pointer (some ⟨q, 0, none⟩), u32v x] w fun e w' => e = .returned (.tuple #[]) ∧ ∃ ov', WalkR w' q p L F mb ov' (dfs L n x out) ∧
      Mod (q :: mb :: ob ov) w w' ∧ (∀ b ∈ ob ov', b ∈ ob ov ∨ w.heap.size ≤ b) := by
  induction n with
  | zero => intro x q p mb F ov out w hx hR h; omega
  | succ n ih =>
    intro x q p mb F ov out w hx hR hlen hnd hval
    have hid := w_id x hx
    cases hi : idO x with
    | none =>
      rw [show dfs L (n + 1) x out = out by unfold dfs; rw [hi]]
      rw [hi] at hid
      unfold idVal at hid
      go_enter Try.func54, Try.ntmps54
      go_wp2_with (go_at_call 87; refine (hid _).mono ?_; rintro e w' ⟨rfl, rfl⟩)
      refine bodyPost_ret (v := .tuple #[]) (by simp [results, go_sem]) rfl ⟨rfl, ov, hR, Mod.refl _ _, fun b hb => .inl hb⟩
    | some id =>
      rw [hi] at hid
      unfold idVal at hid
      have hc0 : w.cell? ⟨q, 0, none⟩ = some (.iface 25 (.pointer (some ⟨p, 0, none⟩))) := by rw [cell_of_blk hR.blk]; rfl
      have hc1 : w.cell? ⟨q, 1, none⟩ = some (.map (some mb)) := by rw [cell_of_blk hR.blk]; rfl
      have hc2 : w.cell? ⟨q, 2, none⟩ = some ov := by rw [cell_of_blk hR.blk]; rfl
      have hol : out.length ≤ 1000 := Nat.le_trans (valid_le L out hnd hval) hL
      have hmc := fun w => m_class ⟨p, 0, none⟩ w
      have hmf := fun w => m_fields ⟨p, 0, none⟩ w
      have hmg := fun w => m_get ⟨p, 0, none⟩ w
      have hidr : (id : Int) ≤ 4294967296 := by
        unfold idO at hi
        split at hi <;> cases hi
        omega
      have hcls := s_class (id : Int) hR.s (by omega) hidr (by omega)
      have hlk := hR.met.lookup (P := Try.prog) (keyInt Try.underlying3) Try.underlying90 (z := .bool false) (fun _ => by kernel_rfl) (id : Int)
      rw [get?_mapConst] at hlk
      by_cases hm : (id : Int) ∈ out
      · rw [show dfs L (n + 1) x out = out by unfold dfs; rw [hi]; simp only; rw [if_pos hm]]
        rw [if_pos hm] at hlk
        simp only [i64v, boolv] at hlk
        go_enter Try.func54, Try.ntmps54
        go_wp2_with (go_at_call 87; refine (hid _).mono ?_; rintro e w' ⟨rfl, rfl⟩)
        refine bodyPost_ret (v := .tuple #[]) (by simp [results, go_sem]) rfl ⟨rfl, ov, hR, Mod.refl _ _, fun b hb => .inl hb⟩
      · rw [if_neg hm] at hlk
        simp only [i64v] at hlk
        cases ho : getO L id with
        | none =>
          rw [show dfs L (n + 1) x out = out by unfold dfs; rw [hi]; simp only; rw [if_neg hm, ho]]
          rw [show clsO L id = -1 by unfold clsO; rw [ho]] at hcls
          go_enter Try.func54, Try.ntmps54
          go_wp2_with (first | (go_at_call 87; refine (hid _).mono ?_; rintro e w' ⟨rfl, rfl⟩) | (go_at_call 26; refine hcls.mono ?_; rintro e w' ⟨rfl, rfl⟩))
          refine bodyPost_ret (v := .tuple #[]) (by simp [results, go_sem]) rfl ⟨rfl, ov, hR, Mod.refl _ _, fun b hb => .inl hb⟩
        | some o =>
          rw [show clsO L id = o.1 by unfold clsO; rw [ho]] at hcls
          have ho0 := hcl o (List.mem_of_getElem? (getO_some ho).2.2)
          have hmet := hR.met
          go_enter Try.func54, Try.ntmps54
          go_wp2_with (first | (go_at_call 87; refine (hid _).mono ?_; rintro e w' ⟨rfl, rfl⟩) | (go_at_call 26; refine hcls.mono ?_; rintro e w' ⟨rfl, rfl⟩) | (at_mapUpdate; refine wpList_update rfl _ _ _ rfl (keyInt Try.underlying3) Try.underlying90 hmet (id : Int) true rfl rfl rfl ?_))
          intro w1 hmet1 hm1
          have hq1 : q ∉ [mb] := by simpa using hR.dq.1
          have hblk1 := blk_mod hR.blk hm1 hq1
          have hown1 := hR.out.mod hm1 (fun b hb => by have := hR.dq.2.2; simp; intro e; subst e; exact this hb)
          have hs1 := hR.s.mod hm1 (fun b hb => by simp; exact (hR.dj b hb).2.1)
          have hc21 : w1.cell? ⟨q, 2, none⟩ = some ov := by rw [cell_of_blk hblk1]; rfl
          rw [upd_mapConst _ _ _ hm] at hmet1
          have Hblk1 := Lib.hid hblk1
          clear hblk1
          go_wp2_with (at_builtin; refine wpList_app1 rfl (.tmp 42) (.tmp 44) 34 rfl 3 _ 1 8 Try.underlying34 info_int rfl (by omega) _ _ _ [.int .i64 (id : Int)] rfl hown1 _ rfl rfl rfl (by simp only [maxLen]; omega) (by omega) ?_)
          intro ov2 w2 hown2 hm2 hat2
          have hq2 : q ∉ ob ov := hR.dq.2.1
          have hblk2 := blk_mod Hblk1.out hm2 hq2
          have hc22 : w2.cell? ⟨q, 2, none⟩ = some ov := by rw [cell_of_blk hblk2]; rfl
          have hfz := frozen_of_blk hblk2 2
          have hc20 : w2.cell? ⟨q, 0, none⟩ = some (.iface 25 (.pointer (some ⟨p, 0, none⟩))) := by rw [cell_of_blk hblk2]; rfl
          obtain ⟨a2, cap2, rfl, -, -⟩ := hown2.val
          have hqs : q < w1.heap.size := lt_of_blk Hblk1.out
          have hq3 : q ∉ ob (.slice a2 (out.length + 1) cap2) := fun h => (hat2 q h).elim hq2 (fun h => by omega)
          have hsz1 := hm1.size
          have hR3 : WalkR (w2.setCell ⟨q, 2, none⟩ (.slice a2 (out.length + 1) cap2)) q p L F mb (.slice a2 (out.length + 1) cap2) (out ++ [(id : Int)]) ∧ Mod (q :: mb :: ob ov) w (w2.setCell ⟨q, 2, none⟩ (.slice a2 (out.length + 1) cap2)) ∧
              (∀ b ∈ ob (.slice a2 (out.length + 1) cap2), b ∈ ob ov ∨ w.heap.size ≤ b) := by
            refine ⟨⟨?_, ?_, ?_, ?_, ?_, ?_⟩, ?_, ?_⟩
            · refine (hs1.mod hm2 (fun b hb => (hR.dj b hb).2.2)).frame fun b hb => Below.heap_setCell _ _ _ _ (fun e => (hR.dj b hb).1 (by exact e))
            · have := blk_set hblk2 2 (.slice a2 (out.length + 1) cap2); simpa using this
            · exact (hmet1.mod hm2 hR.dq.2.2).frame (Below.heap_setCell _ _ _ _ (fun e => hR.dq.1 (by exact e.symm)))
            · have := hown2.far (a := ⟨q, 2, none⟩) hq3 (.slice a2 (out.length + 1) cap2)
              simpa [i64v] using this
            · intro b hb
              refine ⟨(hR.dj b hb).1, (hR.dj b hb).2.1, fun h => (hat2 b h).elim (hR.dj b hb).2.2 (fun h => ?_)⟩
              have := hR.s.lt b hb; omega
            · refine ⟨hR.dq.1, hq3, fun h => (hat2 mb h).elim hR.dq.2.2 (fun h => ?_)⟩
              have := hR.met.lt; omega
            · refine ((hm1.mono (G := q :: mb :: ob ov) (fun b hb => .inl (by simp at hb; simp [hb]))).trans hm2 (fun b hb => .inl (by simp [hb]))).set _ (.inl (by simp))
            · intro b hb; exact (hat2 b hb).imp (fun h => h) (fun h => by omega)
          have HR3 := Lib.hid hR3
          clear hR3 hblk2 hown2 hm2 hat2 hs1 hown1 hmet1 hm1
          have hfl := fun w' (h : SRep w' p L F) => s_fields (w := w') (id : Int) h (by omega) hidr (by omega)
          rw [show lenO L id = o.2.length by unfold lenO; rw [ho]] at hfl
          have hgood : (out ++ [(id : Int)]).Nodup ∧ ∀ i ∈ out ++ [(id : Int)], (getO L i).isSome := by
            refine ⟨?_, ?_⟩
            · rw [List.nodup_append]
              exact ⟨hnd, by simp, fun a ha b hb e => by simp at hb; subst hb; subst e; exact hm ha⟩
            · intro i hi'
              rcases List.mem_append.1 hi' with h | h
              · exact hval i h
              · simp at h; subst h; rw [ho]; rfl
          have hol1 := valid_le L _ hgood.1 hgood.2
          simp only [List.length_append, List.length_cons, List.length_nil] at hol1
          have how := hw o (List.mem_of_getElem? (getO_some ho).2.2)
          go_wp2_with (go_at_call 23; refine (hfl _ HR3.out.1.s).mono ?_; rintro e w' ⟨rfl, rfl⟩)
          generalize (w2.setCell ⟨q, 2, none⟩ (.slice a2 (out.length + 1) cap2)) = w3 at *
          generalize (Value.slice a2 (out.length + 1) cap2) = ov3 at *
          go_loopw [54] (fun c wr => ∃ (k : Nat) (ovk : Value), k ≤ o.2.length ∧ c = .int .i64 k ∧ Hid (WalkR wr q p L F mb ovk ((o.2.take k).foldl (fun acc f => dfs L n f acc) (out ++ [(id : Int)])) ∧ Mod (q :: mb :: ob ov) w wr ∧ (∀ b ∈ ob ovk, b ∈ ob ov ∨ w.heap.size ≤ b))) (fun c _ => o.2.length - (intOf c).toNat)
          case atStart => exact ⟨0, ov3, Nat.zero_le _, rfl, HR3.out⟩
          case round =>
            obtain ⟨k, ovk, hk, rfl, hIk⟩ := hrel
            have hgk : ((o.2.take k).foldl (fun acc f => dfs L n f acc) (out ++ [(id : Int)])).Nodup ∧ (∀ i ∈ (o.2.take k).foldl (fun acc f => dfs L n f acc) (out ++ [(id : Int)]), (getO L i).isSome) ∧
                out.length + 1 ≤ ((o.2.take k).foldl (fun acc f => dfs L n f acc) (out ++ [(id : Int)])).length := by
              refine foldl_keeps' (fun acc : List Int => acc.Nodup ∧ (∀ i ∈ acc, (getO L i).isSome) ∧ out.length + 1 ≤ acc.length) _ (fun b a hb => ?_) _ _ ⟨hgood.1, hgood.2, by simp⟩
              have := dfs_good L n a b hb.1 hb.2.1
              exact ⟨this.1, this.2.1, Nat.le_trans hb.2.2 this.2.2⟩
            by_cases hlt : k < o.2.length
            · have hlt' : (k : Int) < o.2.length := by omega
              have hx : o.2[k]? = some o.2[k] := List.getElem?_eq_getElem hlt
              have hg := s_get (w := wr) (id : Int) (k : Int) hIk.out.1.s (by omega) hidr (by omega) (fun o ho => (hw o ho).1)
              rw [show fldO L id k = some o.2[k] by unfold fldO; rw [ho]; simp [hx]] at hg
              unfold getVal at hg
              have hf := how.2 _ (List.getElem_mem hlt)
              have hih := ih o.2[k] q p mb F ovk _ wr hf hIk.out.1 (by omega) hgk.1 hgk.2.1
              have hcw0 : wr.cell? ⟨q, 0, none⟩ = some (.iface 25 (.pointer (some ⟨p, 0, none⟩))) := by rw [cell_of_blk hIk.out.1.blk]; rfl
              have hst : (o.2.take (k + 1)).foldl (fun acc f => dfs L n f acc) (out ++ [(id : Int)]) = dfs L n o.2[k] ((o.2.take k).foldl (fun acc f => dfs L n f acc) (out ++ [(id : Int)])) := by
                rw [List.take_succ_eq_append_getElem hlt, List.foldl_append]; rfl
              have HST := Lib.hid hst
              have HIH := Lib.hid hih
              clear hst hih ih hgk hgood hx
              go_wp2_with (first | (go_at_call 24; refine hg.mono ?_; rintro e w' ⟨rfl, rfl⟩) | (go_at_call 54; refine HIH.out.mono ?_; rintro e w' ⟨rfl, ov', hR', hM', hB'⟩))
              go_roundw
              case rel =>
                refine ⟨k + 1, ov', by omega, by go_num, ?_⟩
                show _ ∧ _
                rw [HST.out]
                refine ⟨hR', hIk.out.2.1.trans hM' ?_, ?_⟩
                · intro b hb
                  simp only [List.mem_cons] at hb ⊢
                  rcases hb with hb | hb | hb
                  · exact .inl (.inl hb)
                  · exact .inl (.inr (.inl hb))
                  · exact (hIk.out.2.2 b hb).imp (fun h => .inr (.inr h)) (fun h => h)
                · intro b hb
                  rcases hB' b hb with h | h
                  · exact hIk.out.2.2 b h
                  · right; have := hIk.out.2.1.size; omega
              case measure => simp [intOf]; omega
            · have hlt' : ¬ (k : Int) < o.2.length := by omega
              obtain rfl : k = o.2.length := by omega
              have hfin : dfs L (n + 1) x out = (o.2.take o.2.length).foldl (fun acc f => dfs L n f acc) (out ++ [(id : Int)]) := by
                rw [List.take_of_length_le (Nat.le_refl _)]
                conv => lhs; unfold dfs
                rw [hi]
                simp only
                rw [if_neg hm, ho]
              have HF := Lib.hid hfin
              clear hfin
              go_wp2
              refine bodyPost_end (v := .tuple #[]) (by simp [results, go_sem]) rfl ⟨rfl, ovk, ?_, hIk.out.2.1, hIk.out.2.2⟩
              rw [HF.out]
              exact hIk.out.1
end Go.Proofs.Ytldlolpbnfgdeaa
