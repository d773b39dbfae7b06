/- save.Reach; the document's own reach. -/
import Derived.Test.YtldlolpbnfgdeaaKFrom
import Derived.Test.YtldlolpbnfgdeaaKRefS
import Derived.Test.YtldlolpbnfgdeaaKSame
namespace Go.Proofs.Ytldlolpbnfgdeaa
open Go Go.RowKit

def reachP (L : List SObj) (rs : List Nat) : List Int := rs.foldl (fun acc r => dfs L (L.length + 1) r acc) []
theorem reachP_good (L : List SObj) (rs : List Nat) : (reachP L rs).Nodup ∧ (∀ i ∈ reachP L rs, (getO L i).isSome) ∧ (reachP L rs).length ≤ L.length := by
  have := foldl_keeps' (fun acc : List Int => acc.Nodup ∧ (∀ i ∈ acc, (getO L i).isSome)) (fun acc r => dfs L (L.length + 1) r acc) (fun b a hb => by
    have := dfs_good L (L.length + 1) a b hb.1 hb.2
    exact ⟨this.1, this.2.1⟩) rs [] ⟨by simp, by simp⟩
  exact ⟨this.1, this.2, valid_le L _ this.1 this.2⟩

/-- The bounds of a store. -/
structure Fit (L : List SObj) : Prop where
  len : L.length ≤ 1000
  wd : ∀ o ∈ L, o.2.length ≤ 62 ∧ ∀ f ∈ o.2, f < 4294967296
  cls : ∀ o ∈ L, 0 ≤ o.1

section
variable {w : World} {p : Nat} {L : List SObj} {F : List Nat}
set_option maxHeartbeats 1000000 in
set_option maxRecDepth 100000 in
theorem s_reach (v : Value) (rs : List Nat) (h : SRep w p L F) (hfit : Fit L) (hv : Rd w 1 rs.length v (rs.map u32v)) (hrs : ∀ r ∈ rs, r < 4294967296) (hlen : rs.length ≤ 1000) :
    Calls Try.prog 18 #[.iface 25 (.pointer (some ⟨p, 0, none⟩)), v] w fun e w' => ∃ u, e = .returned u ∧ Rd w' 1 (reachP L rs).length u ((reachP L rs).map i64v) ∧ (∀ b ∈ ob u, w.heap.size ≤ b) ∧ Mod [] w w' := by
  obtain ⟨a, cap, rfl, hcap⟩ := hv.val
  have hmm := @run_makeMap Try.prog
  go_enter Try.func18, Try.ntmps18
  go_wp2
  have hR0 : ∃ W0 q, W0 = ((w.alloc (.map #[] 0)).alloc (.cells #[.iface 25 (.pointer (some ⟨p, 0, none⟩)), .map (some w.heap.size), .slice none 0 0] 92)) ∧ q = w.heap.size + 1 ∧
      WalkR W0 q p L F w.heap.size (.slice none 0 0) [] ∧ Mod [] w W0 := by
    refine ⟨_, _, rfl, rfl, ⟨?_, ?_, ?_, Own.nil _ _ _, ?_, ?_⟩, ((Mod.refl _ _).step _).step _⟩
    · exact h.frame fun b hb => by
        have := h.lt b hb
        rw [Below.heap_alloc _ _ _ (by simp; omega), Below.heap_alloc _ _ _ this]
    · have := heap_alloc_new (w.alloc (.map #[] 0)) (.cells #[.iface 25 (.pointer (some ⟨p, 0, none⟩)), .map (some w.heap.size), .slice none 0 0] 92)
      simpa using this
    · exact (MapR.new w _ _).frame (Below.heap_alloc _ _ _ (by simp))
    · intro b hb; have := h.lt b hb; exact ⟨by omega, by omega, by simp [ob, Value.ownBlock]⟩
    · exact ⟨by omega, by simp [ob, Value.ownBlock], by simp [ob, Value.ownBlock]⟩
  obtain ⟨W0, q, hW0, hq, hR0, hM0⟩ := hR0
  rw [← hW0, ← hq]
  have hmb : w.heap.size < q := by omega
  have hwq : w.heap.size ≤ q := by omega
  generalize hmbe : w.heap.size = mb at *
  have HMB := Lib.hid hmbe
  clear hW0 hq hmbe hmm
  go_loopw [16] (fun c wr => ∃ (k : Nat) (ov : Value), k ≤ rs.length ∧ c = .int .i64 k ∧ Hid (WalkR wr q p L F mb ov ((rs.take k).foldl (fun acc r => dfs L (L.length + 1) r acc) []) ∧ Mod [] w wr ∧ (∀ b ∈ ob ov, w.heap.size ≤ b))) (fun c _ => rs.length - (intOf c).toNat)
  case atStart => exact ⟨0, _, Nat.zero_le _, rfl, hR0, hM0, by simp [ob, Value.ownBlock]⟩
  case round =>
    obtain ⟨k, ov, hk, rfl, hIk⟩ := hrel
    have hgk : ((rs.take k).foldl (fun acc r => dfs L (L.length + 1) r acc) []).Nodup ∧ (∀ i ∈ (rs.take k).foldl (fun acc r => dfs L (L.length + 1) r acc) [], (getO L i).isSome) := by
      refine foldl_keeps' (fun acc : List Int => acc.Nodup ∧ (∀ i ∈ acc, (getO L i).isSome)) _ (fun b a hb => ?_) _ _ ⟨by simp, by simp⟩
      have := dfs_good L (L.length + 1) a b hb.1 hb.2
      exact ⟨this.1, this.2.1⟩
    by_cases hlt : k < rs.length
    · have hlt' : (k : Int) < rs.length := by omega
      have hk0 : (0 : Int) ≤ k := by omega
      obtain ⟨b, off, c, rfl, hbl, hcc, hcell⟩ := (hv.mod0 hIk.out.2.1).at1 (k := k) hlt
      rw [List.getElem?_map, List.getElem?_eq_getElem hlt] at hcc
      simp only [Option.map_some, Option.some.injEq] at hcc
      subst hcc
      have hx := hrs _ (List.getElem_mem hlt)
      have hih := from_any L hfit.len hfit.wd hfit.cls (L.length + 1) rs[k] q p mb F ov _ wr hx hIk.out.1 (by omega) hgk.1 hgk.2
      have hst : (rs.take (k + 1)).foldl (fun acc r => dfs L (L.length + 1) r acc) [] = dfs L (L.length + 1) rs[k] ((rs.take k).foldl (fun acc r => dfs L (L.length + 1) r acc) []) := by
        rw [List.take_succ_eq_append_getElem hlt, List.foldl_append]; rfl
      have HST := Lib.hid hst
      have HIH := Lib.hid hih
      clear hst hih hgk
      go_wp2_with (go_at_call 54; refine HIH.out.mono ?_; rintro e w' ⟨rfl, ov', hR', hM', hB'⟩)
      go_roundw
      case rel =>
        refine ⟨k + 1, ov', by omega, by go_num, ?_⟩
        show _ ∧ _
        rw [HST.out]
        have hs := hIk.out.2.1.size
        have hmb' := HMB.out
        refine ⟨hR', hIk.out.2.1.trans hM' ?_, ?_⟩
        · intro b hb
          simp only [List.mem_cons] at hb
          rcases hb with hb | hb | hb
          · right; omega
          · right; omega
          · exact .inr (hIk.out.2.2 b hb)
        · intro b hb
          rcases hB' b hb with h | h
          · exact hIk.out.2.2 b h
          · omega
      case measure => simp [intOf]; omega
    · have hlt' : ¬ (k : Int) < rs.length := by omega
      obtain rfl : k = rs.length := by omega
      have hcw2 : wr.cell? ⟨q, 2, none⟩ = some ov := by rw [cell_of_blk hIk.out.1.blk]; rfl
      have hfin : reachP L rs = (rs.take rs.length).foldl (fun acc r => dfs L (L.length + 1) r acc) [] := by
        rw [List.take_of_length_le (Nat.le_refl _)]; rfl
      have HF := Lib.hid hfin
      have hov := hIk.out.1.out
      rw [← HF.out] at hov
      have hmaxl : ∃ cap, cap ≤ 9223372036854775807 ∧ (reachP L rs).length ≤ cap ∧ ∃ a, ov = .slice a (reachP L rs).length cap := by
        rcases hov.2 with ⟨rfl, h0⟩ | ⟨g, cap', cur, rfl, -, hh, hc1, hc2, -⟩
        · exact ⟨0, by omega, by omega, none, by rw [h0]⟩
        · exact ⟨cap', by simp only [maxLen] at hc2; omega, hc1, _, rfl⟩
      obtain ⟨cap', hc1, hc2, a', rfl⟩ := hmaxl
      have hrd := hov.rd
      have HRD := Lib.hid hrd
      clear hfin hov hrd hgk
      go_wp2_with (go_at_call 55; refine (clip_int _ _ cap' _ hc2 hc1).mono ?_; rintro e w' ⟨rfl, rfl⟩)
      go_ret
      refine ⟨.slice a' (reachP L rs).length (reachP L rs).length, rfl, ?_, fun b hb => hIk.out.2.2 b (by rw [ob_slice a' _ cap' _ (reachP L rs).length]; exact hb), hIk.out.2.1⟩
      obtain ⟨h1, a2, cap2, hv2, hc3, h2⟩ := HRD.out
      cases hv2
      exact ⟨h1, _, _, rfl, Nat.le_refl _, h2⟩
end

set_option maxHeartbeats 1000000 in
set_option maxRecDepth 100000 in
theorem walk_any (L : List SObj) (hfit : Fit L) (n : Nat) : ∀ (x : Nat) (p mb : Nat) (F : List Nat) (ov : Value) (out : List Int) (w : World), x < 4294967296 → RRep w p L F → MapR w mb i64v i64v (out.map fun i => (i, 1)) → Own w 3 1 ov out.length (out.map i64v) →
    (∀ b ∈ F, b ≠ mb ∧ b ∉ ob ov) → mb ∉ ob ov → L.length - out.length < n → out.Nodup → (∀ i ∈ out, (getO L i).isSome) →
    Calls Try.prog 56 #[.pointer (some ⟨p, 0, none⟩), u32v x, .map (some mb), ov] w fun e w' => ∃ ov', e = .returned ov' ∧ RRep w' p L F ∧ MapR w' mb i64v i64v ((dfs L n x out).map fun i => (i, 1)) ∧ Own w' 3 1 ov' (dfs L n x out).length ((dfs L n x out).map i64v) ∧
      Mod (mb :: ob ov) w w' ∧ (∀ b ∈ ob ov', b ∈ ob ov ∨ w.heap.size ≤ b) := by
  induction n with
  | zero => intro x p mb F ov out w _ _ _ _ _ _ h; omega
  | succ n ih =>
    intro x p mb F ov out w hx hs hmet hown hdj hdm hlen hnd hval
    have hid := r_id x hx
    cases hi : idO x with
    | none =>
      rw [show dfs L (n + 1) x out = out by unfold dfs; rw [hi]]
      rw [hi] at hid
      unfold idVal at hid
      go_enter Try.func56, Try.ntmps56
      go_wp2_with (go_at_call 25; refine (hid _).mono ?_; rintro e w' ⟨rfl, rfl⟩)
      go_ret
      exact ⟨ov, rfl, hs, hmet, hown, Mod.refl _ _, fun b hb => .inl hb⟩
    | some id =>
      rw [hi] at hid
      unfold idVal at hid
      have hol : out.length ≤ 1000 := Nat.le_trans (valid_le L out hnd hval) hfit.len
      have hidr : (id : Int) ≤ 4294967296 := by
        unfold idO at hi
        split at hi <;> cases hi
        omega
      have hcls := r_class (id : Int) hs (by omega) hidr (by have := hfit.len; omega)
      have hlk := hmet.lookup (P := Try.prog) (keyInt Try.underlying3) Try.underlying42 (z := .int .i64 0) (fun _ => by kernel_rfl) (id : Int)
      rw [get?_mapConst] at hlk
      cases ho : getO L id with
      | none =>
        have hm : (id : Int) ∉ out := fun h => by have := hval _ h; rw [ho] at this; cases this
        rw [show dfs L (n + 1) x out = out by unfold dfs; rw [hi]; simp only; rw [if_neg hm, ho]]
        rw [show clsO L id = -1 by unfold clsO; rw [ho]] at hcls
        clear hlk
        go_enter Try.func56, Try.ntmps56
        go_wp2_with (first | (go_at_call 25; refine (hid _).mono ?_; rintro e w' ⟨rfl, rfl⟩) | (go_at_call 59; refine hcls.mono ?_; rintro e w' ⟨rfl, rfl⟩))
        go_ret
        exact ⟨ov, rfl, hs, hmet, hown, Mod.refl _ _, fun b hb => .inl hb⟩
      | some o =>
        rw [show clsO L id = o.1 by unfold clsO; rw [ho]] at hcls
        have ho0 := hfit.cls o (List.mem_of_getElem? (getO_some ho).2.2)
        by_cases hm : (id : Int) ∈ out
        · rw [show dfs L (n + 1) x out = out by unfold dfs; rw [hi]; simp only; rw [if_pos hm]]
          rw [if_pos hm] at hlk
          simp only [i64v] at hlk
          go_enter Try.func56, Try.ntmps56
          go_wp2_with (first | (go_at_call 25; refine (hid _).mono ?_; rintro e w' ⟨rfl, rfl⟩) | (go_at_call 59; refine hcls.mono ?_; rintro e w' ⟨rfl, rfl⟩))
          go_ret
          exact ⟨ov, rfl, hs, hmet, hown, Mod.refl _ _, fun b hb => .inl hb⟩
        · rw [if_neg hm] at hlk
          simp only [i64v] at hlk
          go_enter Try.func56, Try.ntmps56
          go_wp2_with (first | (go_at_call 25; refine (hid _).mono ?_; rintro e w' ⟨rfl, rfl⟩) | (go_at_call 59; refine hcls.mono ?_; rintro e w' ⟨rfl, rfl⟩) | (at_mapUpdate; refine wpList_update rfl _ _ _ rfl (keyInt Try.underlying3) Try.underlying42 hmet (id : Int) 1 rfl rfl rfl ?_))
          intro w1 hmet1 hm1
          have hown1 := hown.mod hm1 (fun b hb => by simp; intro e; subst e; exact hdm hb)
          have hs1 := hs.mod hm1 (fun b hb => by simp; exact (hdj b hb).1)
          rw [upd_mapConst _ _ _ hm] at hmet1
          go_wp2_with (at_builtin; refine wpList_app1 rfl (.tmp 36) (.tmp 38) 34 rfl 3 _ 1 8 Try.underlying34 info_int rfl (by omega) _ _ _ [.int .i64 (id : Int)] rfl hown1 _ rfl rfl rfl (by simp only [maxLen]; omega) (by omega) ?_)
          intro ov2 w2 hown2 hm2 hat2
          have hsz1 := hm1.size
          have hR3 : RRep w2 p L F ∧ MapR w2 mb i64v i64v ((out ++ [(id : Int)]).map fun i => (i, 1)) ∧ Own w2 3 1 ov2 (out ++ [(id : Int)]).length ((out ++ [(id : Int)]).map i64v) ∧ Mod (mb :: ob ov) w w2 ∧
              (∀ b ∈ ob ov2, b ∈ ob ov ∨ w.heap.size ≤ b) := by
            refine ⟨hs1.mod hm2 (fun b hb => (hdj b hb).2), hmet1.mod hm2 hdm, by simpa [i64v] using hown2, ?_, fun b hb => (hat2 b hb).imp (fun h => h) (fun h => by omega)⟩
            exact (hm1.mono (G := mb :: ob ov) (fun b hb => .inl (by simp at hb; simp [hb]))).trans hm2 (fun b hb => .inl (by simp [hb]))
          have hgood : (out ++ [(id : Int)]).Nodup ∧ ∀ i ∈ out ++ [(id : Int)], (getO L i).isSome := by
            refine ⟨?_, ?_⟩
            · rw [List.nodup_append]
              exact ⟨hnd, by simp, fun a ha b hb e => by simp at hb; subst hb; subst e; exact hm ha⟩
            · intro i hi'
              rcases List.mem_append.1 hi' with h | h
              · exact hval i h
              · simp at h; subst h; rw [ho]; rfl
          have hol1 := valid_le L _ hgood.1 hgood.2
          simp only [List.length_append, List.length_cons, List.length_nil] at hol1
          have how := hfit.wd o (List.mem_of_getElem? (getO_some ho).2.2)
          clear hown2 hm2 hat2 hown1 hs1 hmet1 hm1 hlk hcls hid
          go_wp2_with fail
          go_loopw [3, 11] (fun ovk c wr => ∃ (k : Nat), k ≤ o.2.length ∧ c = .int .i64 k ∧ Hid (RRep wr p L F ∧ MapR wr mb i64v i64v (((o.2.take k).foldl (fun acc f => dfs L n f acc) (out ++ [(id : Int)])).map fun i => (i, 1)) ∧
            Own wr 3 1 ovk ((o.2.take k).foldl (fun acc f => dfs L n f acc) (out ++ [(id : Int)])).length (((o.2.take k).foldl (fun acc f => dfs L n f acc) (out ++ [(id : Int)])).map i64v) ∧
            Mod (mb :: ob ov) w wr ∧ (∀ b ∈ ob ovk, b ∈ ob ov ∨ w.heap.size ≤ b))) (fun _ c _ => o.2.length - (intOf c).toNat)
          case atStart => exact ⟨0, Nat.zero_le _, rfl, hR3⟩
          case round =>
            obtain ⟨k, hk, rfl, hIk⟩ := hrel
            have hgk : ((o.2.take k).foldl (fun acc f => dfs L n f acc) (out ++ [(id : Int)])).Nodup ∧ (∀ i ∈ (o.2.take k).foldl (fun acc f => dfs L n f acc) (out ++ [(id : Int)]), (getO L i).isSome) ∧
                out.length + 1 ≤ ((o.2.take k).foldl (fun acc f => dfs L n f acc) (out ++ [(id : Int)])).length := by
              refine foldl_keeps' (fun acc : List Int => acc.Nodup ∧ (∀ i ∈ acc, (getO L i).isSome) ∧ out.length + 1 ≤ acc.length) _ (fun b a hb => ?_) _ _ ⟨hgood.1, hgood.2, by simp⟩
              have := dfs_good L n a b hb.1 hb.2.1
              exact ⟨this.1, this.2.1, Nat.le_trans hb.2.2 this.2.2⟩
            have hfl := r_fields (w := wr) (id : Int) hIk.out.1 (by omega) hidr (by have := hfit.len; omega)
            rw [show lenO L id = o.2.length by unfold lenO; rw [ho]] at hfl
            have hmbw := hmet.lt
            have hdk : (∀ b ∈ F, b ≠ mb ∧ b ∉ ob u3) ∧ mb ∉ ob u3 := by
              refine ⟨fun b hb => ⟨(hdj b hb).1, fun h => (hIk.out.2.2.2.2 b h).elim (hdj b hb).2 (fun h => by have := hs.lt b hb; omega)⟩, fun h => (hIk.out.2.2.2.2 mb h).elim hdm (fun h => by omega)⟩
            by_cases hlt : k < o.2.length
            · have hlt' : (k : Int) < o.2.length := by omega
              have hx : o.2[k]? = some o.2[k] := List.getElem?_eq_getElem hlt
              have hg := r_get (w := wr) (id : Int) (k : Int) hIk.out.1 (by omega) hidr (by have := hfit.len; omega) (fun o ho => (hfit.wd o ho).1)
              rw [show fldO L id k = some o.2[k] by unfold fldO; rw [ho]; simp [hx]] at hg
              unfold getVal at hg
              have hf := how.2 _ (List.getElem_mem hlt)
              have hih := ih o.2[k] p mb F u3 _ wr hf hIk.out.1 hIk.out.2.1 hIk.out.2.2.1 hdk.1 hdk.2 (by omega) hgk.1 hgk.2.1
              have hst : (o.2.take (k + 1)).foldl (fun acc f => dfs L n f acc) (out ++ [(id : Int)]) = dfs L n o.2[k] ((o.2.take k).foldl (fun acc f => dfs L n f acc) (out ++ [(id : Int)])) := by
                rw [List.take_succ_eq_append_getElem hlt, List.foldl_append]; rfl
              have HST := Lib.hid hst
              have HIH := Lib.hid hih
              clear hst hih ih hgk hgood hx hR3 hmet hown hs hdj
              go_wp2_with (first | (go_at_call 60; refine hfl.mono ?_; rintro e w' ⟨rfl, rfl⟩) | (go_at_call 61; refine hg.mono ?_; rintro e w' ⟨rfl, rfl⟩) | (go_at_call 56; refine HIH.out.mono ?_; rintro e w' ⟨ov', rfl, hR', hMt', hO', hM', hB'⟩))
              go_roundw
              case rel =>
                refine ⟨k + 1, by omega, by go_num, ?_⟩
                show _ ∧ _
                rw [HST.out]
                refine ⟨hR', hMt', hO', hIk.out.2.2.2.1.trans hM' ?_, ?_⟩
                · intro b hb
                  simp only [List.mem_cons] at hb ⊢
                  rcases hb with hb | hb
                  · exact .inl (.inl hb)
                  · exact (hIk.out.2.2.2.2 b hb).imp (fun h => .inr h) (fun h => h)
                · intro b hb
                  rcases hB' b hb with h | h
                  · exact hIk.out.2.2.2.2 b h
                  · right; have := hIk.out.2.2.2.1.size; omega
              case measure => simp [intOf]; omega
            · have hlt' : ¬ (k : Int) < o.2.length := by omega
              obtain rfl : k = o.2.length := by omega
              have hfin : dfs L (n + 1) x out = (o.2.take o.2.length).foldl (fun acc f => dfs L n f acc) (out ++ [(id : Int)]) := by
                rw [List.take_of_length_le (Nat.le_refl _)]
                conv => lhs; unfold dfs
                rw [hi]
                simp only
                rw [if_neg hm, ho]
              have HF := Lib.hid hfin
              clear hfin hR3 hmet hown hs hdj hgk
              go_wp2_with (go_at_call 60; refine hfl.mono ?_; rintro e w' ⟨rfl, rfl⟩)
              go_ret
              rw [HF.out]
              exact ⟨u3, rfl, hIk.out.1, hIk.out.2.1, hIk.out.2.2.1, hIk.out.2.2.2.1, hIk.out.2.2.2.2⟩

section
variable {w : World} {p : Nat} {L : List SObj} {F : List Nat}
set_option maxHeartbeats 1000000 in
set_option maxRecDepth 100000 in
theorem r_reach (v : Value) (rs : List Nat) (h : RRep w p L F) (hfit : Fit L) (hv : Rd w 1 rs.length v (rs.map u32v)) (hrs : ∀ r ∈ rs, r < 4294967296) (hlen : rs.length ≤ 1000) :
    Calls Try.prog 19 #[.pointer (some ⟨p, 0, none⟩), v] w fun e w' => ∃ u, e = .returned u ∧ Own w' 3 1 u (reachP L rs).length ((reachP L rs).map i64v) ∧ (∀ b ∈ ob u, w.heap.size ≤ b) ∧ Mod [] w w' := by
  obtain ⟨a, cap, rfl, hcap⟩ := hv.val
  have hmm := @run_makeMap Try.prog
  go_enter Try.func19, Try.ntmps19
  go_wp2
  have hR0 : ∃ W0 mb, W0 = w.alloc (.map #[] 0) ∧ mb = w.heap.size ∧ RRep W0 p L F ∧ MapR W0 mb i64v i64v (([] : List Int).map fun i => (i, 1)) ∧ Mod [] w W0 ∧ ∀ b ∈ F, b ≠ mb := by
    refine ⟨_, _, rfl, rfl, ?_, MapR.new w _ _, (Mod.refl _ _).step _, fun b hb => by have := h.lt b hb; omega⟩
    exact h.frame fun b hb => Below.heap_alloc _ _ _ (h.lt b hb)
  obtain ⟨W0, mb, hW0, hmb, hs0, hm0, hM0, hd0⟩ := hR0
  rw [← hW0, ← hmb]
  have HMB := Lib.hid hmb
  clear hW0 hmb hmm
  go_loopw [6, 12] (fun ov c wr => ∃ (k : Nat), k ≤ rs.length ∧ c = .int .i64 k ∧ Hid (RRep wr p L F ∧ MapR wr mb i64v i64v (((rs.take k).foldl (fun acc r => dfs L (L.length + 1) r acc) []).map fun i => (i, 1)) ∧
    Own wr 3 1 ov ((rs.take k).foldl (fun acc r => dfs L (L.length + 1) r acc) []).length (((rs.take k).foldl (fun acc r => dfs L (L.length + 1) r acc) []).map i64v) ∧ Mod [] w wr ∧ (∀ b ∈ ob ov, w.heap.size < b))) (fun _ c _ => rs.length - (intOf c).toNat)
  case atStart => exact ⟨0, Nat.zero_le _, rfl, hs0, hm0, Own.nil _ _ _, hM0, by simp [ob, Value.ownBlock]⟩
  case round =>
    obtain ⟨k, hk, rfl, hIk⟩ := hrel
    have hgk : ((rs.take k).foldl (fun acc r => dfs L (L.length + 1) r acc) []).Nodup ∧ (∀ i ∈ (rs.take k).foldl (fun acc r => dfs L (L.length + 1) r acc) [], (getO L i).isSome) := by
      refine foldl_keeps' (fun acc : List Int => acc.Nodup ∧ (∀ i ∈ acc, (getO L i).isSome)) _ (fun b a hb => ?_) _ _ ⟨by simp, by simp⟩
      have := dfs_good L (L.length + 1) a b hb.1 hb.2
      exact ⟨this.1, this.2.1⟩
    by_cases hlt : k < rs.length
    · have hlt' : (k : Int) < rs.length := by omega
      have hk0 : (0 : Int) ≤ k := by omega
      obtain ⟨b, off, c, rfl, hbl, hcc, hcell⟩ := (hv.mod0 hIk.out.2.2.2.1).at1 (k := k) hlt
      rw [List.getElem?_map, List.getElem?_eq_getElem hlt] at hcc
      simp only [Option.map_some, Option.some.injEq] at hcc
      subst hcc
      have hx := hrs _ (List.getElem_mem hlt)
      have hih := walk_any L hfit (L.length + 1) rs[k] p mb F u6 _ wr hx hIk.out.1 hIk.out.2.1 hIk.out.2.2.1 (fun b hb => ⟨hd0 b hb, fun h' => by have := hIk.out.2.2.2.2 b h'; have := h.lt b hb; omega⟩) (fun h' => by have := hIk.out.2.2.2.2 mb h'; have := HMB.out; omega) (by omega) hgk.1 hgk.2
      have hst : (rs.take (k + 1)).foldl (fun acc r => dfs L (L.length + 1) r acc) [] = dfs L (L.length + 1) rs[k] ((rs.take k).foldl (fun acc r => dfs L (L.length + 1) r acc) []) := by
        rw [List.take_succ_eq_append_getElem hlt, List.foldl_append]; rfl
      have HST := Lib.hid hst
      have HIH := Lib.hid hih
      clear hst hih hgk hs0 hm0
      go_wp2_with (go_at_call 56; refine HIH.out.mono ?_; rintro e w' ⟨ov', rfl, hR', hMt', hO', hM', hB'⟩)
      go_roundw
      case rel =>
        refine ⟨k + 1, by omega, by go_num, ?_⟩
        show _ ∧ _
        rw [HST.out]
        have hs := hIk.out.2.2.2.1.size
        have hmb' := HMB.out
        have hmw := hIk.out.2.1.lt
        refine ⟨hR', hMt', hO', hIk.out.2.2.2.1.trans hM' ?_, ?_⟩
        · intro b hb
          simp only [List.mem_cons] at hb
          rcases hb with hb | hb
          · right; omega
          · right; have := hIk.out.2.2.2.2 b hb; omega
        · intro b hb
          rcases hB' b hb with h | h
          · exact hIk.out.2.2.2.2 b h
          · omega
      case measure => simp [intOf]; omega
    · have hlt' : ¬ (k : Int) < rs.length := by omega
      obtain rfl : k = rs.length := by omega
      have hfin : reachP L rs = (rs.take rs.length).foldl (fun acc r => dfs L (L.length + 1) r acc) [] := by
        rw [List.take_of_length_le (Nat.le_refl _)]; rfl
      have HF := Lib.hid hfin
      clear hfin hgk hs0 hm0
      go_wp2
      go_ret
      rw [HF.out]
      exact ⟨u6, rfl, hIk.out.2.2.1, fun b hb => Nat.le_of_lt (hIk.out.2.2.2.2 b hb), hIk.out.2.2.2.1⟩
end
end Go.Proofs.Ytldlolpbnfgdeaa
