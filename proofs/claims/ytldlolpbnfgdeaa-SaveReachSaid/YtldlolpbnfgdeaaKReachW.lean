/- SaveReach: the walk. -/
import Derived.Test.YtldlolpbnfgdeaaKTells
import Derived.Test.YtldlolpbnfgdeaaKReachP
import Derived.Test.YtldlolpbnfgdeaaKAlike
import Derived.Deep.Upon
namespace Go.Proofs.Ytldlolpbnfgdeaa
open Go Go.RowKit

theorem numP_five (n : Int) (l : List Int) : (numP n l).length ≤ 5 := by
  unfold numP
  split
  · simp; omega
  · simp
/-- 'append' of a readable row. -/
theorem wpList_appR {P : Program} {w : World} {ops : Array Oper} {rest : List Oper} {o : Oper} {a : Act} {Q : Exit → Act → World → Prop} (hgd : o.guard = none) (s x : Operand) (t : TypeId)
    (ho : o.op = .call { callee := .builtin .append, args := #[s, x], argTypes := #[t, t] })
    (e : TypeId) (z : Value) (bytes : Nat) (ht : P.underlying t = some (.slice e)) (hinfo : (P.info? e).map (fun i => (i.zero, i.size, i.bytes)) = some (some z, 1, bytes)) (hzs : z.cells.size = 1)
    (v : Value) (n : Nat) (xs : List Value) (hs : a.eval s = v) (hown : Own w e 1 v n xs) (u : Value) (m : Nat) (news : List Value) (hx : a.eval x = u) (hr : Rd w 1 m u news) (h1 : ∀ u ∈ news, u.oneCell' = true)
    (h63 : n + m ≤ maxLen) (hbytes : (n + m) * bytes ≤ 140737488355328)
    (h : ∀ v' w', Own w' e 1 v' (n + m) (xs ++ news) → Mod (ob v) w w' → (∀ b ∈ ob v', b ∈ ob v ∨ b = w.heap.size) → wpList P ops Q rest (a.put o.dst v') w') : wpList P ops Q (o :: rest) a w := by
  obtain ⟨hl, ad, cap, rfl, hc, hcells⟩ := hr
  by_cases hm : m = 0
  · subst hm
    have hn : news = [] := by cases news with
      | nil => rfl
      | cons _ _ => simp at hl
    subst hn
    obtain ⟨i, hi, hz, hsize, hby⟩ := info_parts hinfo
    obtain ⟨va, vc, rfl, hvc, -⟩ := hown.val
    have hsrc : Src P i.size t (.slice ad 0 cap) 0 [] w := by
      cases ad with
      | none => exact Src.ofNil _ ht cap
      | some ad => exact Src.ofSlice _ ht ad 0 cap [] (by simp) (by simp) (by simp)
    refine wpList_plain hgd fun K hK => ?_
    have hrun := run_append_nothing (P := P) w t t o.type e i ht hi va n vc hvc _ hsrc
    unfold Oper.wp execOp
    simp only [ho, resolve, invoke, builtin, Sem.run_bind, Sem.run_pure, Result.andThen_ok, List.map_toArray, List.map_cons, List.map_nil, hs, hx, hrun]
    exact hK _ _ (h _ _ (by simpa using hown) (Mod.refl _ _) (fun b hb => .inl hb))
  · obtain ⟨b, off, rfl, hb, hcell⟩ := hcells (by omega)
    refine wpList_app hgd s x t ho e z 1 bytes ht hinfo hzs (by omega) v n xs hs hown ⟨b, off, none⟩ m cap news hx hl (fun j u hu => ?_) h1 h63 hbytes h
    have := hcell j u hu
    rw [show (⟨b, off, none⟩ : Addr).add j = ⟨b, off + j, none⟩ by unfold Addr.add; split; (rename_i h0; subst h0; rfl); rfl]
    exact this

theorem own_empty (w : World) (e : TypeId) : Own (w.alloc (.cells #[] e)) e 1 (.slice (some ⟨w.heap.size, 0, none⟩) 0 0) 0 [] :=
  ⟨rfl, .inr ⟨w.heap.size, 0, #[], rfl, Nat.zero_le _, heap_alloc_new w _, Nat.le_refl _, by simp only [maxLen]; omega, rfl, rfl⟩⟩
theorem one_u32 (R : List Nat) : ∀ u ∈ R.map u32v, u.oneCell' = true := by
  intro u hu
  obtain ⟨x, -, rfl⟩ := List.mem_map.1 hu
  rfl
theorem t_reachRS {w0 w5 w7 : World} {p1 r1 p2 r2 : Nat} {La Lb : List SObj} {vr vs : Value} {R S : List Nat} (h : Sv w0 w5 p1 r1 p2 r2 La Lb vr vs R S) (hm : Mod [] w5 w7) (vb : Value) (hB : Own w7 44 1 vb (0 + R.length + S.length) (([] ++ R.map u32v) ++ S.map u32v)) (h5 : R.length ≤ 5) (h6 : S.length ≤ 5) :
    Calls Try.prog 18 #[.iface 25 (.pointer (some ⟨p1, 0, none⟩)), vb] w7 fun e w' => ∃ u, e = .returned u ∧ Rd w' 1 (reachP La (R ++ S)).length u ((reachP La (R ++ S)).map i64v) ∧ Mod [] w7 w' := by
  obtain ⟨F1, s1⟩ := h.s1
  have hr := hB.rd
  rw [show 0 + R.length + S.length = (R ++ S).length by simp, show ([] ++ R.map u32v) ++ S.map u32v = (R ++ S).map u32v by simp] at hr
  refine (s_reach vb (R ++ S) (s1.mod hm (by simp)) h.fa hr (fun x hx => (List.mem_append.1 hx).elim (h.rl.1 x) (h.sl.1 x)) (by simp; omega)).mono ?_
  rintro e w' ⟨u, rfl, hu, -, hm'⟩
  exact ⟨u, rfl, hu, hm'⟩

set_option maxHeartbeats 4000000 in
set_option maxRecDepth 100000 in
theorem walk_reach (v1 v3 v4 : Value) (l : List Ask) (ra rb : List Int) (w : World) (hv1 : Rd w 4 l.length v1 (l.flatMap askV)) (hl : ∀ a ∈ l, AskOk a) (hll : l.length ≤ 9223372036854775807)
    (hv3 : Rd w 1 ra.length v3 (ra.map i64v)) (hra : ∀ k ∈ ra, isI64 k) (hral : ra.length ≤ 9223372036854775807) (hv4 : Rd w 1 rb.length v4 (rb.map i64v)) (hrb : ∀ k ∈ rb, isI64 k) (hrbl : rb.length ≤ 9223372036854775807) :
    Calls Try.prog 5 #[v1, v3, v4] w fun e w' => e = .returned (.bool true) ∧ Mod [] w w' := by
  have c1 := l_made v1 l w hv1 hl hll
  obtain ⟨fa, hLa⟩ := made_fit l
  generalize madeP l = La at *
  have hmm := @run_makeMap Try.prog
  go_enter Try.func5, Try.ntmps5
  go_wp2_with (go_at_call 15; refine c1.mono ?_; rintro e w2 ⟨p1, r1, rfl, F1, G1, h1⟩)
  have hM2 : Mod [] w w2 := h1.m
  obtain ⟨lv1, vs1, hIR1, -⟩ := h1.r
  obtain ⟨a1, cap1, hlv1, hcell1⟩ := hIR1.slice
  have hr1l := lt_of_blk hIR1.hp
  have c3 := fun w3 (h : Mod [] w w3) => l_numbers La.length v3 ra w3 (by omega) (by omega) (hv3.mod0 h) hra hral
  have c4 := fun w3 (h : Mod [] w w3) => l_numbers La.length v4 rb w3 (by omega) (by omega) (hv4.mod0 h) hrb hrbl
  clear hIR1 hlv1 c1
  have HB1 := Lib.hid h1
  clear h1
  refine wp_plan [0, 1, 2, 3, 4, 5, 7, 8, 9, 10, 11, 12] [6, 13, 14, 15] (fun w' => w'.cell? ⟨r1, 0, none⟩ = some (.slice a1 La.length cap1)) (by kernel_rfl) (by kernel_rfl) hcell1 ?_
  simp only [pickAll, List.filterMap_cons, List.filterMap_nil, List.getElem?_cons_succ, List.getElem?_cons_zero]
  repeat (refine' wpTake_step rfl (fun w hS => by go_simp; rfl) ?_; simp only [Act.put, List.setIfInBounds_toArray, List.set_cons_zero, List.set_cons_succ])
  refine wpTake_nil ?_
  refine wpRest_one (by kernel_rfl) (fun K hK => ?_)
  go_wp2_with (go_at_call 16; refine (c3 _ hM2.drew).mono ?_; rintro e w3 ⟨vr, rfl, hR, -, hM3⟩)
  refine hK _ _ ((hM3.cell hr1l (by simp)).trans hcell1) ?_
  clear hK K
  refine wpRest_one (by kernel_rfl) (fun K hK => ?_)
  go_wp2_with (go_at_call 16; refine (c4 _ (hM2.drew.trans hM3 (by simp))).mono ?_; rintro e w4 ⟨vs, rfl, hS, -, hM4⟩)
  have hM34 := hM3.trans hM4 (by simp)
  refine hK _ _ ((hM34.cell hr1l (by simp)).trans hcell1) ?_
  clear hK K
  refine wpRest_one (by kernel_rfl) (fun K hK => ?_)
  go_wp2
  refine hK _ _ ((hM34.cell hr1l (by simp)).trans hcell1) ?_
  clear hK K
  refine wpRest_last (by kernel_rfl) ?_
  go_wp2
  refine NoP_normal ?_
  have hM24 : Mod [] w2 w4 := (Mod.refl [] w2).drew.trans hM34 (by simp)
  have hn1 := numP_ok La.length ra (by omega) (by omega)
  have hn2 := numP_ok La.length rb (by omega) (by omega)
  have hn5 := numP_five La.length ra
  have hn6 := numP_five La.length rb
  have hv0 : Sv w w4 p1 r1 p1 r1 La La vr vs (numP La.length ra) (numP La.length rb) :=
    ⟨⟨_, HB1.out.s.mod hM24 (by simp)⟩, ⟨_, HB1.out.r.mod hM24 (by simp)⟩, ⟨_, HB1.out.s.mod hM24 (by simp)⟩, ⟨_, HB1.out.r.mod hM24 (by simp)⟩, hR.rd.mod0 hM4, hS.rd, hM2.trans hM24 (by simp), fa, fa, hn1, hn2⟩
  clear hcell1 c3 c4 hR hS hM3 hM4 hM34 hM24 hM2 HB1 hv1 hv3 hv4 hl hra hrb
  generalize numP La.length ra = R at *
  generalize numP La.length rb = S at *
  have c1 := t_reach1 hv0
  have one1 := one_u32 R
  have one2 := one_u32 S
  go_wp2_with (first | (go_at_call_of 18 vb; refine (t_reachRS hv5 hM57 vb hB hn5 hn6).mono ?_; rintro e w8 ⟨u2, rfl, hu2, hM78⟩; obtain ⟨a3, cap3, rfl, hc3⟩ := hu2.val) | (go_at_call 18; refine c1.mono ?_; rintro e w5 ⟨u1, rfl, hu1, hv5⟩; obtain ⟨a2, cap2, rfl, hc2⟩ := hu1.val) | (at_builtin; refine wpList_appR rfl (.tmp 50) (.tmp 51) 29 rfl 44 _ 4 Try.underlying29 info_u32 rfl (.slice (some ⟨w5.heap.size, 0, none⟩) 0 0) 0 [] rfl (own_empty w5 _) vr R.length _ rfl (hv5.r.alloc _) one1 (by simp only [maxLen]; omega) (by omega) (fun va w6 hA hmA hoA => ?_); have hM56 : Mod [] w5 w6 := ((Mod.refl [] w5).step _).trans hmA (fun b hb => by simp [ob, Value.ownBlock] at hb; right; omega)) | (at_builtin; refine wpList_appR rfl (.tmp 52) (.tmp 53) 29 rfl 44 _ 4 Try.underlying29 info_u32 rfl va (0 + R.length) _ rfl hA vs S.length _ rfl (hv5.s.mod0 hM56) one2 (by simp only [maxLen]; omega) (by omega) (fun vb w7 hB hmB hoB => ?_); have hM57 : Mod [] w5 w7 := hM56.trans hmB (fun b hb => by right; rcases hoA b hb with h | h; (simp [ob, Value.ownBlock] at h; omega); (simp at h; omega))))
  have hM58 := hM57.trans hM78 (by simp)
  have hR0 : ∃ W0 m, W0 = w8.alloc (.map #[] 0) ∧ m = w8.heap.size ∧ MapR W0 m i64v i64v (([] : List Int).map fun i => (i, 1)) ∧ Mod [] w5 W0 ∧ Mod [] w8 W0 := ⟨_, _, rfl, rfl, MapR.new w8 _ _, hM58.step _, (Mod.refl _ _).step _⟩
  obtain ⟨W0, m, hW0, hm, hR0, hM0, hM80⟩ := hR0
  rw [← hW0, ← hm]
  have hmge : w5.heap.size ≤ m := by have := hM58.size; omega
  obtain ⟨F, hs5⟩ := hv5.s1
  have hgx := reachP_good La R
  have hcl := reach_closed La R
  obtain ⟨t, ht⟩ := reach_pre La R S
  have hX := hu1.mod0 hM58
  have hY := hu2
  have hM5 := hv5.m
  have hlY : (reachP La (R ++ S)).length ≤ 1000 := Nat.le_trans (reachP_good La _).2.2 (by omega)
  clear hu1 hu2 hM57 hM56 hM78 hA hmA hoA hB hmB hoB one1 one2 hv0 hv5 hmm c1
  rw [ht] at hY hlY hc3 ⊢
  generalize reachP La R = X at *
  obtain ⟨Z, hZ⟩ : ∃ Z, Z = X ++ t := ⟨_, rfl⟩
  rw [← hZ] at hY hlY hc3 ⊢
  have HZ := Lib.hid hZ
  clear hZ
  have hXl : X.length ≤ 1000 := Nat.le_trans hgx.2.2 (by omega)
  have HX := Lib.hid hX
  have HY := Lib.hid hY
  have HS := Lib.hid (hs5.mod hM58 (by simp))
  have HM0 := Lib.hid (hM5.trans hM58 (by simp))
  have HMG := Lib.hid hmge
  have HGX := Lib.hid hgx
  have HCL := Lib.hid hcl
  have HR0 := Lib.hid hR0
  have HW8 : Hid (w8.heap.size ≤ m) := by show w8.heap.size ≤ m; omega
  clear hX hY hs5 hmge hgx hcl hR0 hM5 hM0 hM58 ht hm hW0
  go_wp2_with fail
  go_loopw [59] (fun c wr => ∃ (k : Nat), k ≤ X.length ∧ c = .int .i64 k ∧ Hid (MapR wr m i64v i64v ((X.take k).map fun i => (i, 1))) ∧ Hid (Mod [] w8 wr)) (fun c _ => X.length - (intOf c).toNat)
  case atStart => exact ⟨0, Nat.zero_le _, rfl, HR0, hM80⟩
  case round =>
    obtain ⟨k, hk, rfl, hMp, hMw⟩ := hrel
    by_cases hlt : k < X.length
    · have hlt' : (k : Int) < X.length := by omega
      have hk0 : (0 : Int) ≤ k := by omega
      obtain ⟨b, off, rfl, hbl, hcell⟩ := (HX.out.mod0 hMw.out).at2 hlt
      unfold i64v at hcell
      have hlk := hMp.out.lookup (P := Try.prog) (keyInt Try.underlying3) Try.underlying42 (z := .int .i64 0) (fun _ => by kernel_rfl) X[k]
      have hno : X[k] ∉ X.take k := nodup_not_take X k hlt HGX.out.1
      rw [get?_mapConst, if_neg hno] at hlk
      simp only [i64v] at hlk
      have hup := upd_mapConst (X.take k) (1 : Int) X[k] hno
      rw [← List.take_succ_eq_append_getElem hlt] at hup
      generalize X[k] = x at *
      have HUP := Lib.hid hup
      clear hup hno
      go_wp2_with (at_mapUpdate; refine wpList_update rfl _ _ _ rfl (keyInt Try.underlying3) Try.underlying42 hMp.out x 1 rfl rfl rfl (fun w9 hr9 hm9 => ?_))
      rw [HUP.out] at hr9
      have HR := Lib.hid hr9
      have HM := Lib.hid (hMw.out.trans hm9 (fun b hb => by simp at hb; have := HW8.out; right; omega))
      clear hr9 hm9 hlk
      go_roundw
      case rel => exact ⟨k + 1, by omega, by go_num, HR, HM⟩
      case measure => simp [intOf]; omega
    · have hlt' : ¬ (k : Int) < X.length := by omega
      have hfull : MapR wr m i64v i64v (X.map fun i => (i, 1)) := by
        have := hMp.out
        rwa [List.take_of_length_le (by omega)] at this
      have HF := Lib.hid hfull
      clear hfull hMp HR0
      go_wp2_with fail
      go_loopw [70] (fun c wz => ∃ (k : Nat), k ≤ X.length ∧ c = .int .i64 k ∧ Hid (MapR wz m i64v i64v (X.map fun i => (i, 1))) ∧ Hid (Mod [] w8 wz)) (fun c _ => X.length - (intOf c).toNat)
      case atStart => exact ⟨0, Nat.zero_le _, rfl, HF, hMw⟩
      case round =>
        obtain ⟨k3, hk3, rfl, hMp, hMw2⟩ := hrel
        by_cases hlt3 : k3 < X.length
        · have hlt' : (k3 : Int) < X.length := by omega
          have hk0 : (0 : Int) ≤ k3 := by omega
          obtain ⟨b, off, rfl, hbl, hcell⟩ := (HX.out.mod0 hMw2.out).at2 hlt3
          unfold i64v at hcell
          have hlk := hMp.out.lookup (P := Try.prog) (keyInt Try.underlying3) Try.underlying42 (z := .int .i64 0) (fun _ => by kernel_rfl) X[k3]
          have hin : X[k3] ∈ X := List.getElem_mem hlt3
          rw [get?_mapConst, if_pos hin] at hlk
          simp only [i64v] at hlk
          obtain ⟨o, ho⟩ := Option.isSome_iff_exists.1 (HGX.out.2.1 _ hin)
          generalize X[k3] = x at *
          have hx4 := getO_some ho
          have hwd := fa.wd o (List.mem_of_getElem? hx4.2.2)
          have hw62 := hwd.1
          have hkid : kids La x = o.2 := by unfold kids; rw [ho]
          have HIN := Lib.hid hin
          have HKID := Lib.hid hkid
          have HWD := Lib.hid hwd
          have HO := Lib.hid ho
          have hxr : -1073741824 ≤ x ∧ x ≤ 4294967296 := by omega
          have HXR := Lib.hid hxr
          clear hin hkid hwd ho hx4 hxr
          go_wp2_with fail
          go_loopw [18] (fun c wz => ∃ (j : Nat), j ≤ o.2.length ∧ c = .int .i64 j ∧ Hid (MapR wz m i64v i64v (X.map fun i => (i, 1))) ∧ Hid (Mod [] w8 wz)) (fun c _ => o.2.length - (intOf c).toNat)
          case atStart => exact ⟨0, Nat.zero_le _, rfl, hMp, hMw2⟩
          case round =>
            obtain ⟨j, hj, rfl, hMp, hMw3⟩ := hrel
            have hs := HS.out.mod hMw3.out (by simp)
            have hfx := s_fields (w := wr) x hs HXR.out.1 HXR.out.2 (by omega)
            rw [show lenO La x = o.2.length by unfold lenO; rw [HO.out]] at hfx
            by_cases hjlt : j < o.2.length
            · have hjlt' : (j : Int) < o.2.length := by omega
              have hg := s_get (w := wr) x (j : Int) hs HXR.out.1 HXR.out.2 (by omega) (fun o ho => (fa.wd o ho).1)
              rw [show fldO La x (j : Int) = some o.2[j] by unfold fldO; rw [HO.out]; simp [hjlt]] at hg
              unfold getVal u32v at hg
              have hf := HWD.out.2 _ (List.getElem_mem hjlt)
              have hfk : o.2[j] ∈ kids La x := by rw [HKID.out]; exact List.getElem_mem hjlt
              have hcl := HCL.out x HIN.out _ hfk
              generalize o.2[j] = f at *
              have hid := r_id f hf
              unfold u32v at hid
              cases hi : idO f with
              | none =>
                rw [hi] at hid
                unfold idVal at hid
                clear hs hlk hcl hfk hi hf
                go_wp2_with (first | (go_at_call 23; refine hfx.mono ?_; rintro e w' ⟨rfl, rfl⟩) | (go_at_call 24; refine hg.mono ?_; rintro e w' ⟨rfl, rfl⟩) | (go_at_call 25; refine (hid _).mono ?_; rintro e w' ⟨rfl, rfl⟩))
                go_roundw
                case rel => exact ⟨j + 1, by omega, by go_num, hMp, hMw3⟩
                case measure => simp [intOf]; omega
              | some a =>
                rw [hi] at hid
                unfold idVal at hid
                have hcx := s_class (w := wr) (a : Int) hs (by omega) (idO_le hi hf) (by omega)
                cases hoa : getO La (a : Int) with
                | none =>
                  rw [show clsO La a = -1 by unfold clsO; rw [hoa]] at hcx
                  clear hs hlk hcl hfk hi hf hoa
                  go_wp2_with (first | (go_at_call 23; refine hfx.mono ?_; rintro e w' ⟨rfl, rfl⟩) | (go_at_call 24; refine hg.mono ?_; rintro e w' ⟨rfl, rfl⟩) | (go_at_call 25; refine (hid _).mono ?_; rintro e w' ⟨rfl, rfl⟩) | (go_at_call 26; refine hcx.mono ?_; rintro e w' ⟨rfl, rfl⟩))
                  go_roundw
                  case rel => exact ⟨j + 1, by omega, by go_num, hMp, hMw3⟩
                  case measure => simp [intOf]; omega
                | some o2 =>
                  rw [show clsO La a = o2.1 by unfold clsO; rw [hoa]] at hcx
                  have ho2 := fa.cls o2 (List.mem_of_getElem? (getO_some hoa).2.2)
                  have hain : (a : Int) ∈ X := hcl a (by unfold objP; rw [hi]; simp [hoa])
                  have hlk2 := hMp.out.lookup (P := Try.prog) (keyInt Try.underlying3) Try.underlying42 (z := .int .i64 0) (fun _ => by kernel_rfl) (a : Int)
                  rw [get?_mapConst, if_pos hain] at hlk2
                  simp only [i64v] at hlk2
                  clear hs hlk hcl hfk hi hf hoa hain
                  go_wp2_with (first | (go_at_call 23; refine hfx.mono ?_; rintro e w' ⟨rfl, rfl⟩) | (go_at_call 24; refine hg.mono ?_; rintro e w' ⟨rfl, rfl⟩) | (go_at_call 25; refine (hid _).mono ?_; rintro e w' ⟨rfl, rfl⟩) | (go_at_call 26; refine hcx.mono ?_; rintro e w' ⟨rfl, rfl⟩))
                  go_roundw
                  case rel => exact ⟨j + 1, by omega, by go_num, hMp, hMw3⟩
                  case measure => simp [intOf]; omega
            · have hjlt' : ¬ (j : Int) < o.2.length := by omega
              clear hs hlk
              go_wp2_with (first | (go_at_call 23; refine hfx.mono ?_; rintro e w' ⟨rfl, rfl⟩))
              go_roundw
              case rel => exact ⟨k3 + 1, by omega, by go_num, hMp, hMw3⟩
              case measure => simp [intOf]; omega
        · have hlt' : ¬ (k3 : Int) < X.length := by omega
          have hsub : (X.length : Int) ≤ Z.length := by rw [HZ.out]; simp; omega
          have hrY := HY.out.mod0 hMw2.out
          have hrX := HX.out.mod0 hMw2.out
          have hrX2 : Rd wr 1 X.length (.slice a3 X.length cap3) (X.map i64v) := by
            obtain ⟨g1, ga, gc, g2, g3, g4⟩ := hrY
            cases g2
            refine ⟨by simp, a3, cap3, rfl, by omega, fun hp => ?_⟩
            obtain ⟨b, off, h1, h2, h3⟩ := g4 (by omega)
            refine ⟨b, off, h1, h2, fun j u hu => h3 j u ?_⟩
            rw [HZ.out, List.map_append]
            have hj : j < (X.map i64v).length := by
              by_cases hj : j < (X.map i64v).length
              · exact hj
              · rw [List.getElem?_eq_none (by omega)] at hu; cases hu
            rw [List.getElem?_append_left hj]; exact hu
          have heq := same_int _ _ X X wr hrX2 hrX (by omega) (by omega)
          rw [decide_eq_true rfl] at heq
          have hkn := fun wq => l_known wq
          clear hrY hrX hrX2
          go_wp2_with (first | (go_at_call 17; refine heq.mono ?_; rintro e w9 ⟨rfl, hm9⟩) | (go_at_call 22; refine (hkn _).mono ?_; rintro e w10 ⟨rfl, hm10⟩))
          go_ret
          exact ⟨rfl, ((HM0.out.trans hMw2.out (by simp)).trans hm9 (by simp)).trans hm10 (by simp)⟩
end Go.Proofs.Ytldlolpbnfgdeaa
