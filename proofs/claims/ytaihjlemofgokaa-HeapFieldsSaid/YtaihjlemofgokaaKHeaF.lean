/- The law. -/
import Derived.Test.YtaihjlemofgokaaKHeaE
set_option linter.unusedSimpArgs false
set_option linter.unusedVariables false
namespace Go.Proofs.Ytaihjlemofgokaa.AA
open Go Go.RowKit
attribute [local go_sem ↓] exA_lookup stepA_lookup exA_mapEnt exA_entSt exA_delete exA_mapUpd WP_seq WP_skip WP_region WP_dregion WP_cond WP_block WP_exit WP_ret OW_nil OW_cons DW_nil DW_cons XW_call reduceIte OW_guard
attribute [local go_sem] LkA_some EvA_some entL_some updM_some at0 at1 at2 XW exA KO_eq OptK_some EvK_some GW2_true GW2_false KS_normal KS_ret KS_exit KB_normal KB_ret KB_exit CP2_bool RP_ret RP_normal putA_some putA_none ev_t ev_c evs evo wantA initA resA Tr.get_set vl chkOk cond_true cond_false Nat.add_zero Nat.mul_one Nat.one_mul Nat.zero_add Nat.zero_mul aggOf pInt binA unA intA beq_true beq_false Bool.not_true Bool.not_false Bool.not_eq_true and_self and_true true_and reduceIte Nat.reduceEqDiff Nat.succ_ne_self Nat.reduceAdd Nat.reduceMul Nat.reduceSub Nat.reduceBEq Nat.reduceLT Nat.reduceLeDiff Int.cast_ofNat_Int Int.reduceToNat Int.reduceLT Int.reduceLE Int.reduceGE Int.reduceGT Int.reduceEq Int.reduceNe Int.reduceAdd Int.reduceSub Int.reduceNeg decide_true decide_false Int.toNat_natCast reduceCtorEq List.nil_append List.cons_append AV.boxy AV.cells List.length_cons List.length_nil Nat.beq_refl AOp.cl KDW_0 KDW_1 KDW_2 OWskip_eq fillA setAt DChk DAt stepA ble_dec beq_dec Bool.and_self Bool.and_true Bool.true_and Bool.and_false Bool.false_and List.take_succ_cons List.take_zero List.drop_succ_cons List.drop_zero List.take_nil List.drop_nil List.append_nil eqAV eqAVL BEq.rfl sameS Option.map Option.isNone wrap64 gt_iff_lt ge_iff_le Int.lt_irrefl Int.le_refl
set_option maxRecDepth 100000
set_option maxHeartbeats 4000000
attribute [local irreducible] Tr.set
theorem empty_row (n : Nat → Nat) (hc : Cfg n) (s : Nat) : OneRow n (emptyM n) s 1 0 := by
  refine ⟨empty_ok hc, ?_, fun t k _ hk _ _ => ?_⟩
  · show (newMl (n s) 1).length = 0
    simp [newMl]
  · show newMl (n t) k = []
    unfold newMl; rw [if_neg (by omega)]
section
variable {H : AHeap}
end
set_option maxHeartbeats 4000000
theorem or1 (a : Int) : ∃ w : Nat, 0 < w ∧ w < 4294967296 ∧ binA .or (.sc .int) (.int .u32 a) (.int .u32 1) = some (.int .u32 (w : Int)) := by
  refine ⟨(BitVec.ofInt 32 a ||| BitVec.ofInt 32 1).toNat, ?_, (BitVec.ofInt 32 a ||| BitVec.ofInt 32 1).isLt, ?_⟩
  · rw [BitVec.toNat_or]
    have h1 : (BitVec.ofInt 32 1).toNat = 1 := by decide
    rw [h1]
    exact Nat.lt_of_lt_of_le (by omega) Nat.right_le_or
  · show some (AV.int .u32 (IntKind.u32.wrap (((BitVec.ofInt 32 a ||| BitVec.ofInt 32 1).toNat : Nat) : Int))) = _
    have := (BitVec.ofInt 32 a ||| BitVec.ofInt 32 1).isLt
    rw [wrap32 (by omega) (by omega)]
section
variable {h : HM}
theorem putM_ok {i k w : Int} {p : Pl} (hp : h.g i = some p) (hk : 0 ≤ k) (hk2 : k < (h.X p).2.length) (hw : w ≠ 0) : (putM h i k w).1 = true ∧ (putM h i k w).2.g = h.g ∧ (putM h i k w).2.X = fset h.X p ((h.X p).1, (h.X p).2.set k.toNat w) := by
  unfold putM
  rw [hp]
  dsimp only
  rw [if_pos ⟨hk, hk2, hw⟩]
  dsimp only
  refine ⟨rfl, ?_⟩
  split
  · obtain ⟨e1, e2⟩ := shadeM_g { h with X := fset h.X p ((h.X p).1, (h.X p).2.set k.toNat w) } w
    rw [e1, e2]; exact ⟨rfl, rfl⟩
  · exact ⟨rfl, rfl⟩
theorem swapM_ok {a b : Int} {p q : Pl} (hp : h.g a = some p) (hq : h.g b = some q) : (swapM h a b).1 = true ∧ (swapM h a b).2.g = swG h.g a b ∧ (swapM h a b).2.X = h.X := by
  unfold swapM
  rw [if_pos (by rw [hp, hq]; rfl)]
  dsimp only
  refine ⟨rfl, ?_⟩
  split
  · obtain ⟨e1, e2⟩ := shadeM_g (shadeM { h with g := swG h.g a b } (2 * a)) (2 * b)
    obtain ⟨e3, e4⟩ := shadeM_g { h with g := swG h.g a b } (2 * a)
    rw [e1, e2, e3, e4]; exact ⟨rfl, rfl⟩
  · exact ⟨rfl, rfl⟩
theorem obM_at {i : Int} {p : Pl} (hp : h.g i = some p) : obM h i = some (h.X p) := by unfold obM; rw [hp]; rfl
theorem getM_at {i : Int} {p : Pl} (hp : h.g i = some p) {k : Nat} {w : Int} (hw : (h.X p).2[k]? = some w) : getM h i k = some w := by
  unfold getM
  rw [obM_at hp]
  dsimp only
  rw [if_pos (by omega), Int.toNat_natCast, hw]
end
theorem OneRow.room {n : Nat → Nat} {h : HM} {s j : Nat} (o : OneRow n h s 1 j) (hs : s < 5) {t : Nat} (ht : t < 5) (hn : j < n t) : ∃ i l, h.M t 0 = i :: l := by
  have hl : 0 < (h.M t 0).length := by
    by_cases e : t = s
    · subst e
      have := o.free hs
      omega
    · have := (o.ok.mill t ht).full fun k hk hk4 => o.no t k ht hk hk4 (.inl e)
      omega
  cases hm : h.M t 0 with
  | nil => rw [hm] at hl; simp at hl
  | cons i l => exact ⟨i, l, rfl⟩
abbrev n4 : Nat → Nat := fun _ => 4
section
variable {H : AHeap}
end
set_option maxHeartbeats 4000000
/-- An object that is there, with its fields. -/
def Has (h : HM) (a c : Int) (l : List Int) : Prop := ∃ p, h.g a = some p ∧ h.X p = (c, l)
section
variable {h : HM} {a c : Int} {l : List Int}
theorem Has.gx {h' : HM} (o : Has h a c l) (hg : h'.g = h.g) (hX : h'.X = h.X) : Has h' a c l := by
  obtain ⟨p, h1, h2⟩ := o
  exact ⟨p, by rw [hg]; exact h1, by rw [hX]; exact h2⟩
theorem Has.hold (o : Has h a c l) (r : List Int) : Has (holdM h r) a c l := by
  obtain ⟨e1, e2⟩ := fold_g r h
  exact o.gx e1 e2
theorem scan1_g (h : HM) (s : Nat) : (scan1 h s).g = h.g ∧ (scan1 h s).X = h.X := by
  unfold scan1
  exact fold_g _ _
theorem scanN_g : ∀ (k : Nat) (lim d : Int) (h : HM), (scanN k lim d h).2.g = h.g ∧ (scanN k lim d h).2.X = h.X
  | 0, _, _, _ => ⟨rfl, rfl⟩
  | k + 1, lim, d, h => by
    unfold scanN
    split
    · exact ⟨rfl, rfl⟩
    · rename_i s _
      split
      · obtain ⟨e1, e2⟩ := scanN_g k lim (d + wds s) (scan1 h s)
        obtain ⟨e3, e4⟩ := scan1_g h s
        exact ⟨by rw [e1, e3], by rw [e2, e4]⟩
      · exact ⟨rfl, rfl⟩
theorem Has.scan (o : Has h a c l) (w : Int) : Has (scanM h w).2 a c l := by
  obtain ⟨e1, e2⟩ := scanN_g 262145 (min w 1048576) 0 h
  exact o.gx e1 e2
theorem Has.alloc {n : Nat → Nat} (ok : HOk n h) (o : Has h a c l) (c' f : Int) : Has (allocM h c' f).2 a c l ∧ (allocM h c' f).1 ≠ a ∧ (0 < (allocM h c' f).1 → ∃ q, (allocM h c' f).2.g (allocM h c' f).1 = some q) := by
  have ad : ∃ p, h.g a = some p := by obtain ⟨p, h1, -⟩ := o; exact ⟨p, h1⟩
  obtain ⟨pa, hpa⟩ := ad
  have a4 := (ok.dom a pa hpa).1
  have no : Has h a c l ∧ (-1 : Int) ≠ a ∧ (0 < (-1 : Int) → ∃ q, h.g (-1) = some q) := ⟨o, by omega, fun h => by omega⟩
  by_cases hb : szP f < 0 ∨ c' < 0 ∨ 4095 < c'
  · have e : allocM h c' f = (-1, h) := by unfold allocM; rw [if_pos hb]
    rw [e]; exact no
  · cases hm : h.M (szP f).toNat 0 with
    | nil =>
      have e : allocM h c' f = (-1, h) := by unfold allocM; rw [if_neg hb, hm]
      rw [e]; exact no
    | cons i r =>
      obtain ⟨id, hid, e⟩ := ok.alloc_at (c := c') (f := f) (by omega) (by omega) (by omega) hm
      obtain ⟨-, -, s5, -⟩ := szP_nn (f := f) (by omega)
      rw [e]
      have hne : id ≠ a := fun e => by
        have := hid.2.2.1
        rw [e, hpa] at this; cases this
      obtain ⟨p, h1, h2⟩ := o
      have hpn : p ≠ (szP f, i) := fun e => by
        obtain ⟨-, -, k, k1, k2, k3⟩ := ok.at_ _ _ h1
        rw [e] at k3
        have := (ok.mill (szP f).toNat (by omega)).dis k 0 i k2 (by omega) k3 (by rw [hm]; simp)
        omega
      refine ⟨⟨p, ?_, ?_⟩, hne, fun _ => ⟨_, fset_same⟩⟩
      · show fset h.g id _ a = _
        rw [fset_ne (Ne.symm hne)]; exact h1
      · show fset h.X _ _ p = _
        rw [fset_ne hpn]; exact h2
theorem Has.put (o : Has h a c l) {k : Nat} (hk : k < l.length) {w : Int} (hw : w ≠ 0) : (putM h a k w).1 = true ∧ Has (putM h a k w).2 a c (l.set k w) := by
  obtain ⟨p, h1, h2⟩ := o
  obtain ⟨e1, e2, e3⟩ := putM_ok (k := (k : Int)) (w := w) h1 (by omega) (by rw [h2]; simpa using hk) hw
  rw [h2, Int.toNat_natCast] at e3
  exact ⟨e1, p, by rw [e2]; exact h1, by rw [e3, fset_same]⟩
theorem Has.swap2 (o : Has h a c l) {b : Int} {q : Pl} (hq : h.g b = some q) : (swapM h a b).1 = true ∧ (swapM (swapM h a b).2 b a).1 = true ∧ Has (swapM (swapM h a b).2 b a).2 a c l := by
  obtain ⟨p, h1, h2⟩ := o
  obtain ⟨e1, e2, e3⟩ := swapM_ok h1 hq
  rw [swG_some h1 hq] at e2
  by_cases hab : b = a
  · subst hab
    have ga : (swapM h b b).2.g b = some p := by rw [e2, fset_same]
    obtain ⟨f1, f2, f3⟩ := swapM_ok ga ga
    rw [swG_some ga ga] at f2
    exact ⟨e1, f1, p, by rw [f2, fset_same], by rw [f3, e3]; exact h2⟩
  · have ga : (swapM h a b).2.g a = some q := by rw [e2, fset_ne (Ne.symm hab), fset_same]
    have gb : (swapM h a b).2.g b = some p := by rw [e2, fset_same]
    obtain ⟨f1, f2, f3⟩ := swapM_ok gb ga
    rw [swG_some gb ga] at f2
    exact ⟨e1, f1, p, by rw [f2, fset_same], by rw [f3, e3]; exact h2⟩
/-- What is held outlives a flip. -/
theorem Has.flip {n : Nat → Nat} (ok : HOk n h) (o : Has h a c l) : Has (flipM (holdM h [2 * a])).2 a c l := by
  have o' := o.hold [2 * a]
  obtain ⟨p, h1, h2⟩ := o
  have a4 := (ok.dom a p h1).1
  obtain ⟨s, cN, rfl, hs, hc, -⟩ := ok.place h1
  have eid : idP (2 * a) = some a := by
    unfold idP
    rw [if_neg (by omega)]
    congr 1; omega
  have eh : holdM h [2 * a] = { h with M := upd h.M s (shM (h.M s) cN) } := by
    show shadeM h (2 * a) = _
    unfold shadeM
    rw [eid]
    dsimp only
    rw [h1]
    simp only [Int.toNat_natCast]
  have hn3 : (cN : Int) ∉ (holdM h [2 * a]).M s 3 := by
    rw [eh]
    show (cN : Int) ∉ upd h.M s (shM (h.M s) cN) s 3
    rw [upd_same]
    unfold shM
    split
    · rename_i hm
      rw [mem_mv (ok.mill s hs) (by omega)]
      simp
    · assumption
  obtain ⟨p', g1, x1⟩ := o'
  have hg : (holdM h [2 * a]).g = h.g := (fold_g [2 * a] h).1
  rw [hg, h1] at g1
  obtain rfl := Option.some.inj g1
  unfold flipM
  split
  · exact ⟨_, by rw [hg]; exact h1, x1⟩
  · refine ⟨_, flipK_g.2 ⟨by rw [hg]; exact h1, fun hh => hn3 ?_⟩, x1⟩
    have := hh.2
    rwa [Int.toNat_natCast] at this
end
set_option maxHeartbeats 8000000
structure As4 where
  k : Int
  i : Int
  j : Int
  n : Int
def asC (e : As4) : List AV := [.int .i64 e.k, .int .i64 e.i, .int .i64 e.j, .int .i64 e.n]
abbrev AsE := EncE asC fun _ => True
section
variable {A : PA} {H H' : AHeap}
theorem as_at {a : Option (Nat × Nat)} {s0 m : Nat} {cl : Bool} {l : List As4} (h : SlE AsE 4 H l [.slice a s0 m cl]) {j : Nat} (hj : j < l.length) : ∃ x o, a = some (x, o) ∧ loadA H x (o + j * 4) 1 = some [.int .i64 l[j].k] ∧ loadA H x (o + j * 4 + 1) 1 = some [.int .i64 l[j].i] ∧ loadA H x (o + j * 4 + 2) 1 = some [.int .i64 l[j].j] ∧ loadA H x (o + j * 4 + 3) 1 = some [.int .i64 l[j].n] := by
  obtain ⟨x, o, c, rfl, rfl, -, -, ⟨rfl, -⟩, hr⟩ := h.at hj
  exact ⟨x, o, rfl, hr.one (j := 0) rfl, hr.one (j := 1) rfl, hr.one (j := 2) rfl, hr.one (j := 3) rfl⟩
theorem andB (a : Int) {b : Nat} (hb : b < 4611686018427387904) : ∃ m : Nat, m ≤ b ∧ binA .and (.sc .int) (.int .i64 a) (.int .i64 (b : Int)) = some (.int .i64 (m : Int)) := by
  have h2 : (BitVec.ofInt 64 (b : Int)).toNat = b := by rw [BitVec.toNat_ofInt]; omega
  have h3 : (BitVec.ofInt 64 a &&& BitVec.ofInt 64 (b : Int)).toNat ≤ b := by
    rw [BitVec.toNat_and, h2]; exact Nat.and_le_right
  refine ⟨(BitVec.ofInt 64 a &&& BitVec.ofInt 64 (b : Int)).toNat, h3, ?_⟩
  show some (AV.int .i64 (IntKind.i64.wrap (((BitVec.ofInt 64 a &&& BitVec.ofInt 64 (b : Int)).toNat : Nat) : Int))) = _
  rw [wrap64 (by omega) (by omega)]
/-- A block that is none of the memory's is written. -/
theorem HR.other {n : Nat → Nat} {h : HM} (hr : HR A n H h) {x : Nat} (hx : A.T x = 0) (ch : Ch x H H') : HR A n H' h := by
  obtain ⟨F, hb, hh⟩ := hr.hb
  exact ⟨hr.ok, F, hb.gen (k := 99) (by rw [ch.1]; exact Nat.le_refl _) (fun y _ hy _ => ch.2 y fun e => hy (by rw [e]; exact hx)) (by omega) (fun s _ => .inl ⟨by omega, rfl⟩) (fun s _ _ => .inl ⟨by omega, rfl⟩) (.inl ⟨by omega, rfl⟩) (.inl (by omega)), hh⟩
theorem smE {H0 : AHeap} (hT : ∀ x, x < H0.next → A.T x = 0) (s : Sm H0 H) (ev : Evo A.d H H') : Sm H0 H' :=
  Sm.of (Nat.le_trans s.1 ev.1) fun x hx => by rw [ev.2 x (Nat.lt_of_lt_of_le hx s.1) (fun hd => hd (hT x hx)), s.gt hx]
/-- One word, as roots. -/
theorem root1 {n : Nat → Nat} {h : HM} (hr : HR A n H h) {w : Int} (hw : U32 w) : HR A n (H.newRow [.int .u32 w]) h ∧ Sm H (H.newRow [.int .u32 w]) ∧ RowW A (H.newRow [.int .u32 w]) (.slice (some (H.next, 0)) 1 1 true) [w] := by
  have hT : A.T H.next = 0 := by obtain ⟨F, hb, -⟩ := hr.hb; exact hb.new _ (Nat.le_refl _)
  have s := Chg.newRow H [.int .u32 w]
  exact ⟨(hr.evoS s).1, s, some (H.next, 0), 1, true, rfl, by show 1 ≤ _; omega, fun x hx => by
    obtain rfl : x = w := by simpa using hx
    exact hw, fun _ => ⟨H.next, 0, rfl, hT, Rd.newRow H _⟩⟩
/-- Four words, elsewhere. -/
def W4 (H : AHeap) (b : Nat) (l : List Int) : Prop := Blk H b 4 (fun j => .int .u32 (l.getD j 0)) ∧ l.length = 4
theorem W4.ld {b : Nat} {l : List Int} (h : W4 H b l) {k : Nat} (hk : k < 4) : ∃ w, l[k]? = some w ∧ loadA H b k 1 = some [.int .u32 w] := by
  have hl : k < l.length := by rw [h.2]; exact hk
  refine ⟨l[k], List.getElem?_eq_getElem hl, ?_⟩
  rw [h.1.load hk, List.getD_eq_getElem?_getD, List.getElem?_eq_getElem hl]; rfl
theorem W4.st {b : Nat} {l : List Int} (h : W4 H b l) {k : Nat} (hk : k < 4) (w : Int) : ∃ H', storeA H b k [.int .u32 w] = some H' ∧ W4 H' b (l.set k w) ∧ Ch b H H' := by
  obtain ⟨H', e1, e2, e3, e4⟩ := h.1.store hk (.int .u32 w)
  refine ⟨H', e1, ⟨e2.congr fun j hj => ?_, by rw [List.length_set]; exact h.2⟩, e3, e4⟩
  unfold upd
  have hl := h.2
  simp only [List.getD_eq_getElem?_getD, List.getElem?_set]
  by_cases e : k = j
  · subst e; simp [hl, hk]
  · rw [if_neg (Ne.symm e), if_neg e]
theorem W4.keep {b : Nat} {l : List Int} (h : W4 H b l) (hl : H.next ≤ H'.next) (hg : H'.get b = H.get b) : W4 H' b l := ⟨h.1.keep' hl hg, h.2⟩
end
abbrev n5 : Nat → Nat := fun s => if s = 0 then 20 else if s = 1 then 20 else if s = 2 then 10 else if s = 3 then 4 else 2
theorem n5_cfg : Cfg n5 := ⟨fun s _ => by unfold n5; repeat' split
                                          all_goals omega, by decide, by decide⟩
theorem one_new : 4 ≤ (allocM (emptyM n5) 5 4).1 ∧ Has (allocM (emptyM n5) 5 4).2 (allocM (emptyM n5) 5 4).1 5 [2, 2, 2, 2] := by
  have o0 := empty_row n5 n5_cfg 1
  obtain ⟨i, l, hi⟩ := o0.room (by omega) (t := 1) (by omega) (by show 0 < 20; omega)
  have z : szP 4 = 1 := by decide
  obtain ⟨p, lp, ep⟩ := o0.ok.alloc_at (c := 5) (f := 4) (by decide) (by omega) (by omega) (i := i) (l := l) (by rw [z]; exact hi)
  rw [ep]
  exact ⟨lp.1, (szP 4, i), fset_same, fset_same⟩
section
variable {H : AHeap}
theorem c_HeapFields {l : List As4} {v : AV} (hl : SlE AsE 4 H l [v]) : CW MN 5 [v] H fun u _ => u = .bool true := by
  refine CW_of (fn := af5) rfl ?_
  unfold af5
  obtain ⟨a0, s0, cl, rfl, -⟩ := hl.shape
  have hmax := hl.max
  have cfg : ([.int .i64 20, .int .i64 20, .int .i64 10, .int .i64 4, .int .i64 2, .int .i64 1] : List AV) = cfgC n5 1 := rfl
  simp -implicitDefEqProofs only [eqA, eqD, go_sem]
  rw [cfg]
  refine CW.mono (c_hNew n5_cfg (by omega) (by omega)) ?_
  rintro u H0 ⟨A, rfl, hr0, sm0, hT⟩
  obtain ⟨id4, has0⟩ := one_new
  simp -implicitDefEqProofs only [Bool.false_eq_true, eqA, eqD, go_sem]
  refine CW.mono (c_Alloc hr0 (c := 5) (f := 4) (by omega)) ?_
  rintro u H1 ⟨rfl, hr1, ev1⟩
  have sm1 := smE hT sm0 ev1
  generalize (allocM (emptyM n5) 5 4).1 = a at *
  generalize (allocM (emptyM n5) 5 4).2 = h1 at *
  have a1024 : a < 1024 := by obtain ⟨p, hp, -⟩ := has0; exact (hr1.ok.dom a p hp).2
  have an : ¬ a < 4 := by omega
  obtain ⟨wb, hwb⟩ : ∃ wb, wb = H1.next := ⟨_, rfl⟩
  have b2 := Blk.new H1 [.int .u32 0, .int .u32 0, .int .u32 0, .int .u32 0] (n := 4) rfl
  have s2 := Chg.newRow H1 [.int .u32 0, .int .u32 0, .int .u32 0, .int .u32 0]
  have wT : A.T wb = 0 := by obtain ⟨F, hb, -⟩ := hr1.hb; rw [hwb]; exact hb.new _ (Nat.le_refl _)
  have wge : H.next ≤ wb := by rw [hwb]; exact sm1.1
  rw [← hwb] at b2
  generalize eH2 : H1.newRow [.int .u32 0, .int .u32 0, .int .u32 0, .int .u32 0] = H2 at *
  have w2 : W4 H2 wb [0, 0, 0, 0] := ⟨b2.congr fun i hi => by
    match i, hi with
    | 0, _ => rfl
    | 1, _ => rfl
    | 2, _ => rfl
    | 3, _ => rfl, rfl⟩
  have hr2 := (hr1.evoS s2).1
  have sm2 := sm1.trans s2
  simp -implicitDefEqProofs only [an, eH2, ← hwb, Bool.false_eq_true, eqA, eqD, go_sem]
  -- all are two
  refine WP_mono (Q := fun ex fr G => ex = .exit 0 ∧ fr.get 0 = some (.slice a0 s0 l.length cl) ∧ fr.get 3 = some (.ptr (some (A.b, 0))) ∧ fr.get 4 = some (.int .i64 a) ∧ fr.get 5 = some (.ptr (some (wb, 0))) ∧ W4 G wb [2, 2, 2, 2] ∧ HR A n5 G h1 ∧ Sm H G) ?_ (WP_loop (fun m fr G => ∃ (k : Nat) (r : List Int), m = 4 - k ∧ k ≤ 4 ∧ fr.get 0 = some (.slice a0 s0 l.length cl) ∧ fr.get 3 = some (.ptr (some (A.b, 0))) ∧ fr.get 4 = some (.int .i64 a) ∧ fr.get 5 = some (.ptr (some (wb, 0))) ∧ fr.get 23 = some (.int .i64 k) ∧ W4 G wb r ∧ (∀ j, j < k → r[j]? = some 2) ∧ HR A n5 G h1 ∧ Sm H G) 4 ?_ ?_)
  rotate_left
  · refine ⟨0, [0, 0, 0, 0], rfl, by omega, ?_⟩
    simp -implicitDefEqProofs only [eqA, eqD, go_sem]
    exact ⟨w2, fun j hj => by omega, hr2, sm2⟩
  · rintro m fr G ⟨k, r, hm, hk, g0, g3, g4, g5, g23, w4, hall, hr, sm⟩
    have k0 : (0 : Int) ≤ k := by omega
    by_cases hlt : k < 4
    · have hlt' : (k : Int) < 4 := by omega
      have hw := wrapS hlt (by omega)
      obtain ⟨G2, e1, w5, ch⟩ := w4.st hlt 2
      simp -implicitDefEqProofs only [g0, g3, g4, g5, g23, hlt', k0, e1, hw, Nat.zero_add, eqA, eqD, go_sem]
      refine ⟨4 - (k + 1), by omega, k + 1, r.set k 2, rfl, by omega, rfl, w5, fun j hj => ?_, hr.other wT ch, sm.ch wge ch⟩
      rw [List.getElem?_set]
      by_cases e : k = j
      · subst e; simp [w4.2, hlt]
      · rw [if_neg e]; exact hall j (by omega)
    · obtain rfl : k = 4 := by omega
      have e4 : ¬ ((4 : Nat) : Int) < 4 := by omega
      simp -implicitDefEqProofs only [g0, g3, g4, g5, g23, e4, Int.lt_irrefl, Bool.false_eq_true, eqA, eqD, go_sem]
      have er : r = [2, 2, 2, 2] := by
        apply List.ext_getElem?
        intro j
        by_cases hj : j < 4
        · rw [hall j hj]
          match j, hj with
          | 0, _ => rfl
          | 1, _ => rfl
          | 2, _ => rfl
          | 3, _ => rfl
        · rw [List.getElem?_eq_none (by have := w4.2; omega), List.getElem?_eq_none (by simp; omega)]
      rw [er] at w4
      exact ⟨w4, hr, sm⟩
  rintro ex fr G ⟨rfl, g0, g3, g4, g5, w4, hr, sm⟩
  simp -implicitDefEqProofs only [g0, g3, g4, g5, eqA, eqD, go_sem]
  have e2a : IntKind.i64.wrap (2 * a) = 2 * a := wrap64 (by omega) (by omega)
  have e2b : IntKind.u32.wrap (2 * a) = 2 * a := wrap32 (by omega) (by omega)
  refine WP_mono (Q := fun ex fr G => ex = .exit 2 ∧ fr.get 3 = some (.ptr (some (A.b, 0))) ∧ fr.get 4 = some (.int .i64 a) ∧ ∃ h r, HR A n5 G h ∧ Has h a 5 r ∧ r.length = 4) ?_ (WP_loop (fun m fr G => ∃ (i : Nat) (h : HM) (r : List Int), m = l.length - i ∧ i ≤ l.length ∧ fr.get 0 = some (.slice a0 s0 l.length cl) ∧ fr.get 3 = some (.ptr (some (A.b, 0))) ∧ fr.get 4 = some (.int .i64 a) ∧ fr.get 5 = some (.ptr (some (wb, 0))) ∧ fr.get 7 = some (.int .i64 i) ∧ W4 G wb r ∧ HR A n5 G h ∧ Has h a 5 r ∧ Sm H G) l.length ?_ ?_)
  rotate_left
  · refine ⟨0, h1, [2, 2, 2, 2], rfl, by omega, ?_⟩
    simp -implicitDefEqProofs only [g0, g3, g4, g5, eqA, eqD, go_sem]
    exact ⟨w4, hr, has0, sm⟩
  · rintro m fr G ⟨i, h, r, hm, hi, g0, g3, g4, g5, g7, w4, hr, has, sm⟩
    have i0 : (0 : Int) ≤ i := by omega
    by_cases hlt : i < l.length
    · have hlt' : (i : Int) < (l.length : Int) := by omega
      have hw := wrapS hlt hmax
      by_cases h60 : i < 60
      · have h60' : (i : Int) < 60 := by omega
        obtain ⟨x, o, rfl, lk, -, lj, ln⟩ := as_at (MonoE.enc.sl _ _ _ _ hl sm) hlt
        have lkK := fun G' (s : Sm H G') => as_at (MonoE.enc.sl _ _ _ _ hl s) hlt
        generalize l[i] = e at *
        obtain ⟨kk, hkk, ak⟩ := andB e.k (b := 3) (by omega)
        obtain ⟨jj, hjj, aj⟩ := andB e.j (b := 3) (by omega)
        obtain ⟨j7, hj7, aj7⟩ := andB e.j (b := 7) (by omega)
        obtain ⟨n63, hn63, an63⟩ := andB e.n (b := 63) (by omega)
        obtain ⟨vw, v0, v1, vb⟩ := or1 (IntKind.u32.wrap e.n)
        have c3 : ((3 : Nat) : Int) = 3 := rfl
        have c7 : ((7 : Nat) : Int) = 7 := rfl
        have c63 : ((63 : Nat) : Int) = 63 := rfl
        rw [c3] at ak aj
        rw [c7] at aj7
        rw [c63] at an63
        by_cases k0 : kk = 0
        · have ek : ((kk : Int) == 0) = true := by simp [k0]
          have jj0 : (0 : Int) ≤ jj := by omega
          have jj4 : (jj : Int) < 4 := by omega
          obtain ⟨p1, p2⟩ := has.put (k := jj) (by have := w4.2; omega) (w := (vw : Int)) (by omega)
          simp -implicitDefEqProofs only [g0, g3, g4, g5, g7, hlt', h60', i0, lk, lj, ln, ↓ak, ek, ↓aj, convA, ↓vb, eqA, eqD, go_sem]
          refine CW.mono (c_Put hr a jj v1) ?_
          rintro u G2 ⟨hv, hr2, ev2⟩
          rw [p1] at hv
          subst hv
          have w5 := w4.keep ev2.1 (ev2.2 _ w4.1.1 fun hd => hd wT)
          obtain ⟨G3, e3, w6, ch3⟩ := w5.st (k := jj) (by omega) (vw : Int)
          have hr3 := hr2.other wT ch3
          have sm3 := (smE hT sm ev2).ch wge ch3
          generalize (putM h a jj (vw : Int)).2 = hB at *
          simp -implicitDefEqProofs only [g0, g3, g4, g5, g7, jj0, jj4, e3, Nat.zero_add, Bool.false_eq_true, eqA, eqD, go_sem]
          refine WP_mono (Q := fun ex fr K => ex = .exit 5 ∧ fr.get 0 = some (.slice (some (x, o)) s0 l.length cl) ∧ fr.get 3 = some (.ptr (some (A.b, 0))) ∧ fr.get 4 = some (.int .i64 a) ∧ fr.get 5 = some (.ptr (some (wb, 0))) ∧ fr.get 7 = some (.int .i64 i) ∧ W4 K wb (r.set jj (vw : Int)) ∧ HR A n5 K hB ∧ Sm H K) ?_ (WP_loop (fun m fr K => ∃ t : Nat, m = 4 - t ∧ t ≤ 4 ∧ fr.get 0 = some (.slice (some (x, o)) s0 l.length cl) ∧ fr.get 3 = some (.ptr (some (A.b, 0))) ∧ fr.get 4 = some (.int .i64 a) ∧ fr.get 5 = some (.ptr (some (wb, 0))) ∧ fr.get 7 = some (.int .i64 i) ∧ fr.get 128 = some (.int .i64 t) ∧ W4 K wb (r.set jj (vw : Int)) ∧ HR A n5 K hB ∧ Sm H K) 4 ?_ ?_)
          rotate_left
          · refine ⟨0, rfl, by omega, ?_⟩
            simp -implicitDefEqProofs only [g0, g3, g4, g5, g7, eqA, eqD, go_sem]
            exact ⟨w6, hr3, sm3⟩
          · rintro m fr K ⟨t, hm', ht, g0, g3, g4, g5, g7, g128, wK, hrK, smK⟩
            have t0 : (0 : Int) ≤ t := by omega
            by_cases htl : t < 4
            · have htl' : (t : Int) < 4 := by omega
              have hwt := wrapS htl (by omega)
              simp -implicitDefEqProofs only [g0, g3, g4, g5, g7, g128, htl', eqA, eqD, go_sem]
              refine CW.mono (c_Get hrK a t) ?_
              rintro u K2 ⟨rfl, hrK2, evK⟩
              have wK2 := wK.keep evK.1 (evK.2 _ wK.1.1 fun hd => hd wT)
              obtain ⟨w, hw1, hw2⟩ := wK2.ld htl
              obtain ⟨pp, hp1, hp2⟩ := p2
              have eg : getM hB a t = some w := getM_at hp1 (by rw [hp2]; exact hw1)
              rw [eg]
              have ww : (w != w) = false := by simp
              simp -implicitDefEqProofs only [g0, g3, g4, g5, g7, g128, Option.getD_some, Option.isSome_some, t0, htl', hw2, ww, hwt, Nat.zero_add, Bool.false_eq_true, eqA, eqD, go_sem]
              exact ⟨4 - (t + 1), by omega, t + 1, rfl, by omega, rfl, wK2, hrK2, smE hT smK evK⟩
            · obtain rfl : t = 4 := by omega
              have e4 : ¬ ((4 : Nat) : Int) < 4 := by omega
              simp -implicitDefEqProofs only [g0, g3, g4, g5, g7, g128, e4, Int.lt_irrefl, Bool.false_eq_true, eqA, eqD, go_sem]
              exact ⟨wK, hrK, smK⟩
          · rintro ex fr K ⟨rfl, g0, g3, g4, g5, g7, wK, hrK, smK⟩
            simp -implicitDefEqProofs only [g0, g3, g4, g5, g7, hw, eqA, eqD, go_sem]
            exact ⟨l.length - (i + 1), by omega, i + 1, hB, r.set jj (vw : Int), rfl, by omega, rfl, wK, hrK, p2, smK⟩
        · have ek : ((kk : Int) == 0) = false := by simp; omega
          by_cases k1 : kk = 1
          · have ek1 : ((kk : Int) == 1) = true := by simp [k1]
            obtain ⟨q1, q2, q3⟩ := has.alloc hr.ok 6 (j7 : Int)
            simp -implicitDefEqProofs only [g0, g3, g4, g5, g7, hlt', h60', i0, lk, lj, ln, ↓ak, ek, ek1, ↓aj7, Bool.false_eq_true, eqA, eqD, go_sem]
            refine CW.mono (c_Alloc hr (c := 6) (f := (j7 : Int)) (by omega)) ?_
            rintro u G2 ⟨rfl, hr2, ev2⟩
            have sm2' := smE hT sm ev2
            have w5 := w4.keep ev2.1 (ev2.2 _ w4.1.1 fun hd => hd wT)
            generalize (allocM h 6 (j7 : Int)).1 = b at *
            generalize (allocM h 6 (j7 : Int)).2 = hA at *
            have hba : (b == a) = false := by simpa using q2
            by_cases hb0 : 0 < b
            · obtain ⟨q, hq⟩ := q3 hb0
              obtain ⟨t1, t2, t3⟩ := q1.swap2 hq
              simp -implicitDefEqProofs only [g0, g3, g4, g5, g7, hba, hb0, Bool.false_eq_true, eqA, eqD, go_sem]
              refine CW.mono (c_Swap hr2 a b) ?_
              rintro u G3 ⟨hv, hr3, ev3⟩
              rw [t1] at hv
              subst hv
              simp -implicitDefEqProofs only [g0, g3, g4, g5, g7, eqA, eqD, go_sem]
              refine CW.mono (c_Swap hr3 b a) ?_
              rintro u G4 ⟨hv, hr4, ev4⟩
              rw [t2] at hv
              subst hv
              have w6 := (w5.keep ev3.1 (ev3.2 _ w5.1.1 fun hd => hd wT))
              have w7 := (w6.keep ev4.1 (ev4.2 _ w6.1.1 fun hd => hd wT))
              have sm4 := smE hT (smE hT sm2' ev3) ev4
              generalize (swapM (swapM hA a b).2 b a).2 = hB at *
              simp -implicitDefEqProofs only [g0, g3, g4, g5, g7, Bool.false_eq_true, eqA, eqD, go_sem]
              refine WP_mono (Q := fun ex fr K => ex = .exit 5 ∧ fr.get 0 = some (.slice (some (x, o)) s0 l.length cl) ∧ fr.get 3 = some (.ptr (some (A.b, 0))) ∧ fr.get 4 = some (.int .i64 a) ∧ fr.get 5 = some (.ptr (some (wb, 0))) ∧ fr.get 7 = some (.int .i64 i) ∧ W4 K wb (r) ∧ HR A n5 K hB ∧ Sm H K) ?_ (WP_loop (fun m fr K => ∃ t : Nat, m = 4 - t ∧ t ≤ 4 ∧ fr.get 0 = some (.slice (some (x, o)) s0 l.length cl) ∧ fr.get 3 = some (.ptr (some (A.b, 0))) ∧ fr.get 4 = some (.int .i64 a) ∧ fr.get 5 = some (.ptr (some (wb, 0))) ∧ fr.get 7 = some (.int .i64 i) ∧ fr.get 128 = some (.int .i64 t) ∧ W4 K wb (r) ∧ HR A n5 K hB ∧ Sm H K) 4 ?_ ?_)
              rotate_left
              · refine ⟨0, rfl, by omega, ?_⟩
                simp -implicitDefEqProofs only [g0, g3, g4, g5, g7, eqA, eqD, go_sem]
                exact ⟨w7, hr4, sm4⟩
              · rintro m fr K ⟨t, hm', ht, g0, g3, g4, g5, g7, g128, wK, hrK, smK⟩
                have t0 : (0 : Int) ≤ t := by omega
                by_cases htl : t < 4
                · have htl' : (t : Int) < 4 := by omega
                  have hwt := wrapS htl (by omega)
                  simp -implicitDefEqProofs only [g0, g3, g4, g5, g7, g128, htl', eqA, eqD, go_sem]
                  refine CW.mono (c_Get hrK a t) ?_
                  rintro u K2 ⟨rfl, hrK2, evK⟩
                  have wK2 := wK.keep evK.1 (evK.2 _ wK.1.1 fun hd => hd wT)
                  obtain ⟨w, hw1, hw2⟩ := wK2.ld htl
                  obtain ⟨pp, hp1, hp2⟩ := t3
                  have eg : getM hB a t = some w := getM_at hp1 (by rw [hp2]; exact hw1)
                  rw [eg]
                  have ww : (w != w) = false := by simp
                  simp -implicitDefEqProofs only [g0, g3, g4, g5, g7, g128, Option.getD_some, Option.isSome_some, t0, htl', hw2, ww, hwt, Nat.zero_add, Bool.false_eq_true, eqA, eqD, go_sem]
                  exact ⟨4 - (t + 1), by omega, t + 1, rfl, by omega, rfl, wK2, hrK2, smE hT smK evK⟩
                · obtain rfl : t = 4 := by omega
                  have e4 : ¬ ((4 : Nat) : Int) < 4 := by omega
                  simp -implicitDefEqProofs only [g0, g3, g4, g5, g7, g128, e4, Int.lt_irrefl, Bool.false_eq_true, eqA, eqD, go_sem]
                  exact ⟨wK, hrK, smK⟩
              · rintro ex fr K ⟨rfl, g0, g3, g4, g5, g7, wK, hrK, smK⟩
                simp -implicitDefEqProofs only [g0, g3, g4, g5, g7, hw, eqA, eqD, go_sem]
                exact ⟨l.length - (i + 1), by omega, i + 1, hB, r, rfl, by omega, rfl, wK, hrK, t3, smK⟩
            · simp -implicitDefEqProofs only [g0, g3, g4, g5, g7, hba, hb0, Bool.false_eq_true, eqA, eqD, go_sem]
              refine WP_mono (Q := fun ex fr K => ex = .exit 5 ∧ fr.get 0 = some (.slice (some (x, o)) s0 l.length cl) ∧ fr.get 3 = some (.ptr (some (A.b, 0))) ∧ fr.get 4 = some (.int .i64 a) ∧ fr.get 5 = some (.ptr (some (wb, 0))) ∧ fr.get 7 = some (.int .i64 i) ∧ W4 K wb (r) ∧ HR A n5 K hA ∧ Sm H K) ?_ (WP_loop (fun m fr K => ∃ t : Nat, m = 4 - t ∧ t ≤ 4 ∧ fr.get 0 = some (.slice (some (x, o)) s0 l.length cl) ∧ fr.get 3 = some (.ptr (some (A.b, 0))) ∧ fr.get 4 = some (.int .i64 a) ∧ fr.get 5 = some (.ptr (some (wb, 0))) ∧ fr.get 7 = some (.int .i64 i) ∧ fr.get 128 = some (.int .i64 t) ∧ W4 K wb (r) ∧ HR A n5 K hA ∧ Sm H K) 4 ?_ ?_)
              rotate_left
              · refine ⟨0, rfl, by omega, ?_⟩
                simp -implicitDefEqProofs only [g0, g3, g4, g5, g7, eqA, eqD, go_sem]
                exact ⟨w5, hr2, sm2'⟩
              · rintro m fr K ⟨t, hm', ht, g0, g3, g4, g5, g7, g128, wK, hrK, smK⟩
                have t0 : (0 : Int) ≤ t := by omega
                by_cases htl : t < 4
                · have htl' : (t : Int) < 4 := by omega
                  have hwt := wrapS htl (by omega)
                  simp -implicitDefEqProofs only [g0, g3, g4, g5, g7, g128, htl', eqA, eqD, go_sem]
                  refine CW.mono (c_Get hrK a t) ?_
                  rintro u K2 ⟨rfl, hrK2, evK⟩
                  have wK2 := wK.keep evK.1 (evK.2 _ wK.1.1 fun hd => hd wT)
                  obtain ⟨w, hw1, hw2⟩ := wK2.ld htl
                  obtain ⟨pp, hp1, hp2⟩ := q1
                  have eg : getM hA a t = some w := getM_at hp1 (by rw [hp2]; exact hw1)
                  rw [eg]
                  have ww : (w != w) = false := by simp
                  simp -implicitDefEqProofs only [g0, g3, g4, g5, g7, g128, Option.getD_some, Option.isSome_some, t0, htl', hw2, ww, hwt, Nat.zero_add, Bool.false_eq_true, eqA, eqD, go_sem]
                  exact ⟨4 - (t + 1), by omega, t + 1, rfl, by omega, rfl, wK2, hrK2, smE hT smK evK⟩
                · obtain rfl : t = 4 := by omega
                  have e4 : ¬ ((4 : Nat) : Int) < 4 := by omega
                  simp -implicitDefEqProofs only [g0, g3, g4, g5, g7, g128, e4, Int.lt_irrefl, Bool.false_eq_true, eqA, eqD, go_sem]
                  exact ⟨wK, hrK, smK⟩
              · rintro ex fr K ⟨rfl, g0, g3, g4, g5, g7, wK, hrK, smK⟩
                simp -implicitDefEqProofs only [g0, g3, g4, g5, g7, hw, eqA, eqD, go_sem]
                exact ⟨l.length - (i + 1), by omega, i + 1, hA, r, rfl, by omega, rfl, wK, hrK, q1, smK⟩
          · have ek1 : ((kk : Int) == 1) = false := by simp; omega
            obtain ⟨z1, z2, z3⟩ := root1 hr (w := 2 * a) ⟨by omega, by omega⟩
            have w5 := w4.keep z2.1 (z2.gt w4.1.1)
            have sm5 := sm.trans z2
            simp -implicitDefEqProofs only [g0, g3, g4, g5, g7, hlt', h60', i0, lk, lj, ln, ↓ak, ek, ek1, convA, e2a, e2b, Bool.false_eq_true, eqA, eqD, go_sem]
            generalize G.newRow [.int .u32 (2 * a)] = G1 at *
            refine CW.mono (c_Hold z1 z3) ?_
            rintro u G2 ⟨hr2, ev2⟩
            have w6 := w5.keep ev2.1 (ev2.2 _ w5.1.1 fun hd => hd wT)
            have sm6 := smE hT sm5 ev2
            have o2 := has.hold [2 * a]
            obtain ⟨x', o', ex, -, -, -, ln2⟩ := lkK G2 sm6
            cases ex
            simp -implicitDefEqProofs only [g0, g3, g4, g5, g7, hlt', h60', i0, ln2, ↓an63, eqA, eqD, go_sem]
            refine CW.mono (c_Scan hr2 n63) ?_
            rintro u G3 ⟨-, hr3, ev3⟩
            have w7 := w6.keep ev3.1 (ev3.2 _ w6.1.1 fun hd => hd wT)
            have sm7 := smE hT sm6 ev3
            have o3 := o2.scan n63
            obtain ⟨z4, z5, z6⟩ := root1 hr3 (w := 2 * a) ⟨by omega, by omega⟩
            have w8 := w7.keep z5.1 (z5.gt w7.1.1)
            have sm8 := sm7.trans z5
            simp -implicitDefEqProofs only [g0, g3, g4, g5, g7, convA, e2a, e2b, eqA, eqD, go_sem]
            generalize G3.newRow [.int .u32 (2 * a)] = G4 at *
            refine CW.mono (c_Hold z4 z6) ?_
            rintro u G5 ⟨hr5, ev5⟩
            have w9 := w8.keep ev5.1 (ev5.2 _ w8.1.1 fun hd => hd wT)
            have sm9 := smE hT sm8 ev5
            have o5 := o3.hold [2 * a]
            have o6 := o3.flip hr3.ok
            generalize holdM (scanM (holdM h [2 * a]) n63).2 [2 * a] = h5 at *
            simp -implicitDefEqProofs only [g0, g3, g4, g5, g7, eqA, eqD, go_sem]
            refine CW.mono (c_Done hr5) ?_
            rintro u G6 ⟨rfl, rfl⟩
            cases hd : (greyM h5).isNone with
            | false =>
              simp -implicitDefEqProofs only [g0, g3, g4, g5, g7, Bool.false_eq_true, eqA, eqD, go_sem]
              refine WP_mono (Q := fun ex fr K => ex = .exit 5 ∧ fr.get 0 = some (.slice (some (x, o)) s0 l.length cl) ∧ fr.get 3 = some (.ptr (some (A.b, 0))) ∧ fr.get 4 = some (.int .i64 a) ∧ fr.get 5 = some (.ptr (some (wb, 0))) ∧ fr.get 7 = some (.int .i64 i) ∧ W4 K wb (r) ∧ HR A n5 K h5 ∧ Sm H K) ?_ (WP_loop (fun m fr K => ∃ t : Nat, m = 4 - t ∧ t ≤ 4 ∧ fr.get 0 = some (.slice (some (x, o)) s0 l.length cl) ∧ fr.get 3 = some (.ptr (some (A.b, 0))) ∧ fr.get 4 = some (.int .i64 a) ∧ fr.get 5 = some (.ptr (some (wb, 0))) ∧ fr.get 7 = some (.int .i64 i) ∧ fr.get 128 = some (.int .i64 t) ∧ W4 K wb (r) ∧ HR A n5 K h5 ∧ Sm H K) 4 ?_ ?_)
              rotate_left
              · refine ⟨0, rfl, by omega, ?_⟩
                simp -implicitDefEqProofs only [g0, g3, g4, g5, g7, eqA, eqD, go_sem]
                exact ⟨w9, hr5, sm9⟩
              · rintro m fr K ⟨t, hm', ht, g0, g3, g4, g5, g7, g128, wK, hrK, smK⟩
                have t0 : (0 : Int) ≤ t := by omega
                by_cases htl : t < 4
                · have htl' : (t : Int) < 4 := by omega
                  have hwt := wrapS htl (by omega)
                  simp -implicitDefEqProofs only [g0, g3, g4, g5, g7, g128, htl', eqA, eqD, go_sem]
                  refine CW.mono (c_Get hrK a t) ?_
                  rintro u K2 ⟨rfl, hrK2, evK⟩
                  have wK2 := wK.keep evK.1 (evK.2 _ wK.1.1 fun hd => hd wT)
                  obtain ⟨w, hw1, hw2⟩ := wK2.ld htl
                  obtain ⟨pp, hp1, hp2⟩ := o5
                  have eg : getM h5 a t = some w := getM_at hp1 (by rw [hp2]; exact hw1)
                  rw [eg]
                  have ww : (w != w) = false := by simp
                  simp -implicitDefEqProofs only [g0, g3, g4, g5, g7, g128, Option.getD_some, Option.isSome_some, t0, htl', hw2, ww, hwt, Nat.zero_add, Bool.false_eq_true, eqA, eqD, go_sem]
                  exact ⟨4 - (t + 1), by omega, t + 1, rfl, by omega, rfl, wK2, hrK2, smE hT smK evK⟩
                · obtain rfl : t = 4 := by omega
                  have e4 : ¬ ((4 : Nat) : Int) < 4 := by omega
                  simp -implicitDefEqProofs only [g0, g3, g4, g5, g7, g128, e4, Int.lt_irrefl, Bool.false_eq_true, eqA, eqD, go_sem]
                  exact ⟨wK, hrK, smK⟩
              · rintro ex fr K ⟨rfl, g0, g3, g4, g5, g7, wK, hrK, smK⟩
                simp -implicitDefEqProofs only [g0, g3, g4, g5, g7, hw, eqA, eqD, go_sem]
                exact ⟨l.length - (i + 1), by omega, i + 1, h5, r, rfl, by omega, rfl, wK, hrK, o5, smK⟩
            | true =>
              simp -implicitDefEqProofs only [g0, g3, g4, g5, g7, eqA, eqD, go_sem]
              refine CW.mono (c_Flip hr5) ?_
              rintro u G7 ⟨-, hr7, ev7⟩
              have wA := w9.keep ev7.1 (ev7.2 _ w9.1.1 fun hd => hd wT)
              have smA := smE hT sm9 ev7
              obtain ⟨y4, y5, y6⟩ := root1 hr7 (w := 2 * a) ⟨by omega, by omega⟩
              have wB := wA.keep y5.1 (y5.gt wA.1.1)
              have smB := smA.trans y5
              simp -implicitDefEqProofs only [g0, g3, g4, g5, g7, convA, e2a, e2b, eqA, eqD, go_sem]
              generalize G7.newRow [.int .u32 (2 * a)] = G8 at *
              refine CW.mono (c_Hold y4 y6) ?_
              rintro u G9 ⟨hr9, ev9⟩
              have wC := wB.keep ev9.1 (ev9.2 _ wB.1.1 fun hd => hd wT)
              have smC := smE hT smB ev9
              have o9 := o6.hold [2 * a]
              generalize holdM (flipM h5).2 [2 * a] = h9 at *
              simp -implicitDefEqProofs only [g0, g3, g4, g5, g7, eqA, eqD, go_sem]
              refine WP_mono (Q := fun ex fr K => ex = .exit 5 ∧ fr.get 0 = some (.slice (some (x, o)) s0 l.length cl) ∧ fr.get 3 = some (.ptr (some (A.b, 0))) ∧ fr.get 4 = some (.int .i64 a) ∧ fr.get 5 = some (.ptr (some (wb, 0))) ∧ fr.get 7 = some (.int .i64 i) ∧ W4 K wb (r) ∧ HR A n5 K h9 ∧ Sm H K) ?_ (WP_loop (fun m fr K => ∃ t : Nat, m = 4 - t ∧ t ≤ 4 ∧ fr.get 0 = some (.slice (some (x, o)) s0 l.length cl) ∧ fr.get 3 = some (.ptr (some (A.b, 0))) ∧ fr.get 4 = some (.int .i64 a) ∧ fr.get 5 = some (.ptr (some (wb, 0))) ∧ fr.get 7 = some (.int .i64 i) ∧ fr.get 128 = some (.int .i64 t) ∧ W4 K wb (r) ∧ HR A n5 K h9 ∧ Sm H K) 4 ?_ ?_)
              rotate_left
              · refine ⟨0, rfl, by omega, ?_⟩
                simp -implicitDefEqProofs only [g0, g3, g4, g5, g7, eqA, eqD, go_sem]
                exact ⟨wC, hr9, smC⟩
              · rintro m fr K ⟨t, hm', ht, g0, g3, g4, g5, g7, g128, wK, hrK, smK⟩
                have t0 : (0 : Int) ≤ t := by omega
                by_cases htl : t < 4
                · have htl' : (t : Int) < 4 := by omega
                  have hwt := wrapS htl (by omega)
                  simp -implicitDefEqProofs only [g0, g3, g4, g5, g7, g128, htl', eqA, eqD, go_sem]
                  refine CW.mono (c_Get hrK a t) ?_
                  rintro u K2 ⟨rfl, hrK2, evK⟩
                  have wK2 := wK.keep evK.1 (evK.2 _ wK.1.1 fun hd => hd wT)
                  obtain ⟨w, hw1, hw2⟩ := wK2.ld htl
                  obtain ⟨pp, hp1, hp2⟩ := o9
                  have eg : getM h9 a t = some w := getM_at hp1 (by rw [hp2]; exact hw1)
                  rw [eg]
                  have ww : (w != w) = false := by simp
                  simp -implicitDefEqProofs only [g0, g3, g4, g5, g7, g128, Option.getD_some, Option.isSome_some, t0, htl', hw2, ww, hwt, Nat.zero_add, Bool.false_eq_true, eqA, eqD, go_sem]
                  exact ⟨4 - (t + 1), by omega, t + 1, rfl, by omega, rfl, wK2, hrK2, smE hT smK evK⟩
                · obtain rfl : t = 4 := by omega
                  have e4 : ¬ ((4 : Nat) : Int) < 4 := by omega
                  simp -implicitDefEqProofs only [g0, g3, g4, g5, g7, g128, e4, Int.lt_irrefl, Bool.false_eq_true, eqA, eqD, go_sem]
                  exact ⟨wK, hrK, smK⟩
              · rintro ex fr K ⟨rfl, g0, g3, g4, g5, g7, wK, hrK, smK⟩
                simp -implicitDefEqProofs only [g0, g3, g4, g5, g7, hw, eqA, eqD, go_sem]
                exact ⟨l.length - (i + 1), by omega, i + 1, h9, r, rfl, by omega, rfl, wK, hrK, o9, smK⟩
      · have h60' : ¬ (i : Int) < 60 := by omega
        simp -implicitDefEqProofs only [g0, g3, g4, g5, g7, hlt', h60', Bool.false_eq_true, eqA, eqD, go_sem]
        exact ⟨h, r, hr, has, w4.2⟩
    · have hlt' : ¬ (i : Int) < (l.length : Int) := by omega
      simp -implicitDefEqProofs only [g0, g3, g4, g5, g7, hlt', Bool.false_eq_true, eqA, eqD, go_sem]
      exact ⟨h, r, hr, has, w4.2⟩
  · rintro ex fr G ⟨rfl, g3, g4, h, r, hr, ⟨p, hp, hx⟩, hr4⟩
    simp -implicitDefEqProofs only [g3, g4, eqA, eqD, go_sem]
    refine CW.mono (c_Class hr a) ?_
    rintro u G2 ⟨hv, hr2, -⟩
    rw [obM_at hp, hx] at hv
    subst hv
    simp -implicitDefEqProofs only [g3, g4, eqA, eqD, go_sem]
    refine CW.mono (c_Fields hr2 a) ?_
    rintro u G3 ⟨hv, hr3, -⟩
    rw [obM_at hp, hx] at hv
    dsimp only at hv
    rw [hr4] at hv
    have hv : u = .int .i64 4 := hv
    subst hv
    simp -implicitDefEqProofs only [g3, g4, eqA, eqD, go_sem]
    refine CW.mono c_known9 ?_
    rintro u G4 rfl
    simp -implicitDefEqProofs only [eqA, eqD, go_sem]
end
end Go.Proofs.Ytaihjlemofgokaa.AA
