/- unit's loops; the unit of a tape. -/
import Derived.Test.YtojeldemfccilaaGreatDoorKImgD
set_option linter.unusedSimpArgs false
set_option linter.unusedVariables false
namespace Go.Proofs.YtojeldemfccilaaGreatDoor.AA
open Go Go.RowKit
set_option maxRecDepth 100000
set_option maxHeartbeats 4000000
attribute [local irreducible] Tr.set
structure NX (b : Nat) (H H' : AHeap) : Prop where
  tp : TapeR H' b
  n : H.next ≤ H'.next
  g : ∀ z, z < H.next → z ≠ b → H'.get z = H.get z
theorem TS.top {H : AHeap} {b : Nat} (h : TapeR H b) : TS H H.next b H := ⟨h, Nat.le_refl _, h.lt, fun _ _ _ => rfl, Nat.le_refl _⟩
theorem TS.nxx {H H' : AHeap} {b : Nat} (h : TS H H.next b H') : NX b H H' := ⟨h.tp, h.nx, h.kp⟩
theorem nx_next {H : AHeap} {b : Nat} (h : TapeR H b) (n : Int) (hn : n ≤ 1000000) : CW MN 22 [.ptr (some (b, 0)), .int .i64 n] H fun w H' => (∃ k : Nat, w = .int .i64 (k : Int) ∧ ((k : Int) < n ∨ k = 0)) ∧ NX b H H' ∧ H'.next = H.next :=
  (c_Next h n hn).mono fun w H' ⟨h1, h2, h3⟩ => ⟨h1, ⟨h2, by rw [h3.1]; exact Nat.le_refl _, fun z _ h => h3.2 z h⟩, h3.1⟩
theorem nx_method {H : AHeap} {b : Nat} (h : TapeR H b) {args size : Int} (ha : 0 ≤ args ∧ args ≤ 2) (h3 : 3 ≤ size) (h12 : size ≤ 12) (fl : Bool) : CW MN 23 [.ptr (some (b, 0)), .int .i64 args, .int .i64 size, .bool fl] H fun w H' => ∃ m l, w = .agg l ∧ MeG H.next none H' m l ∧ methOk size args m ∧ NX b H H' :=
  (c_method (TS.top h) ha h3 h12 fl).mono fun w H' ⟨m, l, h1, h2, h3, h4⟩ => ⟨m, l, h1, h2, h3, h4.nxx⟩
theorem Arr.nx {b : Nat} {H H' : AHeap} (k : NX b H H') {x : Nat} {cs : List AV} {P : Nat → Prop} (h : Arr H x cs P) (hx : x ≠ b) : Arr H' x cs P := h.keep k.n (k.g x h.1 hx)
structure UB (H0 : AHeap) (b : Nat) (vc vm vo : AV) (H : AHeap) : Prop where
  tp : TapeR H b
  bl : b < H0.next
  kp : ∀ z, z < H0.next → z ≠ b → H.get z = H0.get z
  nx : H0.next + 3 ≤ H.next
  a2 : Arr H H0.next [.slice none 1 0 true, .slice none 1 0 true, .slice none 1 0 true, .slice none 1 0 true, .int .i64 0] fun _ => False
  an : Rd H (H0.next + 1) 0 (nmsU.map AV.str)
  a3 : Arr H (H0.next + 2) [.slice (some (H0.next + 1, 0)) 1 6 true, vc, vm, vo, .int .i64 6] fun _ => False
theorem UB.keep {H0 H H' : AHeap} {b : Nat} {vc vm vo : AV} (h : UB H0 b vc vm vo H) (hn : H.next ≤ H'.next) (ht : TapeR H' b) (hg : ∀ z, z < H0.next + 3 → z ≠ b → H'.get z = H.get z) : UB H0 b vc vm vo H' := by
  have hb := h.bl
  exact ⟨ht, h.bl, fun z h1 h2 => by rw [hg z (by omega) h2, h.kp z h1 h2], Nat.le_trans h.nx hn, h.a2.keep hn (hg _ (by omega) (by omega)), h.an.keep hn (hg _ (by omega) (by omega)), h.a3.keep hn (hg _ (by omega) (by omega))⟩
theorem UB.nxx {H0 H H' : AHeap} {b : Nat} {vc vm vo : AV} (h : UB H0 b vc vm vo H) (k : NX b H H') : UB H0 b vc vm vo H' := h.keep k.n k.tp fun z h1 h2 => k.g z (by have := h.nx; omega) h2
theorem UB.hi {H0 H H' : AHeap} {b : Nat} {vc vm vo : AV} (h : UB H0 b vc vm vo H) (hn : H.next ≤ H'.next) (hg : ∀ z, z < H0.next + 3 → H'.get z = H.get z) : UB H0 b vc vm vo H' := h.keep hn (h.tp.kp hn fun z hz => hg z (by have := h.bl; omega)) fun z h1 _ => hg z h1
theorem UB.put {H0 H : AHeap} {b : Nat} {vc vm vo : AV} (h : UB H0 b vc vm vo H) (i : Nat) (v : AV) (vc' vm' vo' : AV) (hi : i < 5) (he : ([.slice (some (H0.next + 1, 0)) 1 6 true, vc', vm', vo', .int .i64 6] : List AV) = setAt [.slice (some (H0.next + 1, 0)) 1 6 true, vc, vm, vo, .int .i64 6] i [v]) : ∃ H', storeA H (H0.next + 2) i [v] = some H' ∧ H'.next = H.next ∧ UB H0 b vc' vm' vo' H' ∧ ∀ z, z ≠ H0.next + 2 → H'.get z = H.get z := by
  obtain ⟨H', e, n, a, g⟩ := h.a3.store (o := i) (vs := [v]) (by simp; omega) he
  have g' : ∀ z, z ≠ H0.next + 2 → H'.get z = H.get z := fun z hz => g z hz (fun h => h)
  have hb := h.bl
  exact ⟨H', e, n, ⟨h.tp.kp (by omega) fun z hz => g' z (by omega), h.bl, fun z h1 h2 => by rw [g' z (by omega), h.kp z h1 h2], by rw [n]; exact h.nx, h.a2.keep (by omega) (g' _ (by omega)), h.an.keep (by omega) (g' _ (by omega)), a⟩, g'⟩
theorem UB.l {H0 H : AHeap} {b : Nat} {vc vm vo : AV} (h : UB H0 b vc vm vo H) : loadA H (H0.next + 2) 1 1 = some [vc] ∧ loadA H (H0.next + 2) 2 1 = some [vm] ∧ loadA H (H0.next + 2) 3 1 = some [vo] := by
  have h1 := h.a3.rd.one (j := 1) rfl
  have h2 := h.a3.rd.one (j := 2) rfl
  have h3 := h.a3.rd.one (j := 3) rfl
  rw [Nat.zero_add] at h1 h2 h3
  exact ⟨h1, h2, h3⟩
def Gx (H : AHeap) (s : Nat) (v : AV) (n : Nat) (cs : List AV) (P : Nat → Prop) : Prop := cs.length = n * s ∧ ∃ x cl, v = .slice (some (x, 0)) s n cl ∧ P x ∧ Arr H x cs fun z => P z ∧ z ≠ x
theorem Gx.push {H : AHeap} {s n bytes : Nat} {v : AV} {cs ys : List AV} {P : Nat → Prop} (h : Gx H s v n cs P) (hP : ∀ z, P z → z < H.next) (hys : ys.length = s) (hb : (n + 1) * bytes ≤ 140737488355328) (hm : n + 1 ≤ 140737488355328) :
    ∃ H2, appendF (H.newRow ys) s bytes false v (.slice (some (H.next, 0)) s 1 true) = some (.slice (some (H.next + 1, 0)) s (n + 1) false, H2) ∧ H2.next = H.next + 2 ∧ Chg H H2 (ub v) ∧ Gx H2 s (.slice (some (H.next + 1, 0)) s (n + 1) false) (n + 1) (cs ++ ys) fun z => P z ∨ z = H.next + 1 := by
  obtain ⟨hl, x, cl, rfl, hp, ha⟩ := h
  cases cl with
  | false =>
    obtain ⟨H2, e1, e2, e3, e4⟩ := Gw.push (bytes := bytes) ⟨hl, .inr ⟨x, rfl, hp, ha⟩⟩ hP hys hb hm
    refine ⟨H2, e1, e2, e3, e4.1, ?_⟩
    obtain ⟨-, ⟨s0, e, -⟩ | ⟨y, e, hp', ha'⟩⟩ := e4
    · cases e
    · exact ⟨y, false, e, hp', ha'⟩
  | true =>
    have hc1 := Chg.newRow H ys
    have hsrc : srcA (H.newRow ys) s false (.slice (some (H.next, 0)) s 1 true) = some (ys, 1) := srcA_slice (Rd.newRow H ys) (by rw [hys, Nat.one_mul])
    have hld : loadA (H.newRow ys) x 0 (n * s) = some cs := (ha.rd.keep hc1.1 (hc1.keep ha.1 (by simp))).load hl
    have hbb : (((n + 1) * bytes).ble 140737488355328 && (n + 1).ble 140737488355328) = true := by rw [Nat.ble_eq_true_of_le hb, Nat.ble_eq_true_of_le hm]; rfl
    have hm0 : Nat.beq 1 0 = false := rfl
    have hnx : (H.newRow ys).next = H.next + 1 := rfl
    have e1 : appendF (H.newRow ys) s bytes false (.slice (some (x, 0)) s n true) (.slice (some (H.next, 0)) s 1 true) = some (.slice (some (H.next + 1, 0)) s (n + 1) false, (H.newRow ys).newRow (cs ++ ys)) := by
      unfold appendF appendA
      simp only [hsrc, hm0, hbb, Nat.beq_refl, hld, cond_true, cond_false, hnx]
    refine ⟨_, e1, rfl, hc1.trans (Chg.newRow _ _), by rw [List.length_append, hl, hys, Nat.add_mul, Nat.one_mul], _, _, rfl, .inr rfl, ?_⟩
    exact Arr.newRow _ _ _
theorem Gx.mono {H : AHeap} {s n : Nat} {v : AV} {cs : List AV} {P P' : Nat → Prop} (h : Gx H s v n cs P) (hp : ∀ z, P z → P' z) : Gx H s v n cs P' := by
  obtain ⟨hl, x, cl, rfl, hpx, hx, c, par, hc, hf, hpar⟩ := h
  exact ⟨hl, x, cl, rfl, hp x hpx, hx, c, par, hc, hf, fun z hz => ⟨hp z (hpar z hz).1, (hpar z hz).2⟩⟩
theorem Gx.keep {H H' : AHeap} {s n : Nat} {v : AV} {cs : List AV} {P : Nat → Prop} (h : Gx H s v n cs P) (hl : H.next ≤ H'.next) (hg : ∀ z, P z → z < H.next → H'.get z = H.get z) : Gx H' s v n cs P := by
  obtain ⟨hl', x, cl, rfl, hpx, ha⟩ := h
  exact ⟨hl', x, cl, rfl, hpx, ha.keep hl (hg x hpx ha.1)⟩
def clC (c : UClass) : List AV := [.str c.name, iv c.super, iv c.fields, .slice none 1 0 true]
def cls0 : List UClass := [⟨[66, 108, 111, 99, 107], -1, 4, []⟩, ⟨[65, 114, 114, 97, 121], -1, 0, []⟩]
def clsStep (l : List UClass) (j : Nat) (c : UClass) : Prop := c.name = [67, 48 + j] ∧ 0 ≤ c.fields ∧ c.fields ≤ 3 + 2 * (j : Int) ∧ c.binds = [] ∧ (c.super = -1 ∨ (2 ≤ c.super ∧ c.super < l.length ∧ (clAt l c.super).fields ≤ c.fields))
def clsOk : List UClass → Nat → Prop
  | l, 0 => l = cls0
  | l, n + 1 => ∃ l' c, l = l' ++ [c] ∧ clsOk l' n ∧ clsStep l' n c
theorem clsOk.len : ∀ {n : Nat} {l : List UClass}, clsOk l n → l.length = 2 + n
  | 0, l, h => by rw [h]; rfl
  | n + 1, l, ⟨l', c, e, h, _⟩ => by rw [e, List.length_append, h.len]; simp; omega
set_option maxHeartbeats 4000000
theorem flat_at {α : Type} {enc : α → List AV} {s : Nat} (h : ∀ a, (enc a).length = s) : ∀ (l : List α) (j : Nat) (hj : j < l.length), ((l.flatMap enc).drop (j * s)).take s = enc l[j]
  | a :: l, 0, _ => by
    rw [Nat.zero_mul, List.drop_zero, List.flatMap_cons, List.take_append_of_le_length (by rw [h]; exact Nat.le_refl _), List.take_of_length_le (by rw [h]; exact Nat.le_refl _)]; rfl
  | a :: l, j + 1, hj => by
    rw [List.flatMap_cons, Nat.add_mul, Nat.one_mul, Nat.add_comm, ← List.drop_drop]
    have e : (enc a ++ l.flatMap enc).drop s = l.flatMap enc := by rw [← h a, List.drop_left]
    rw [e, flat_at h l j (by simpa using hj)]; rfl
theorem flat_len {α : Type} {enc : α → List AV} {s : Nat} (h : ∀ a, (enc a).length = s) (l : List α) : (l.flatMap enc).length = l.length * s := by
  induction l with
  | nil => simp
  | cons a l ih => rw [List.flatMap_cons, List.length_append, h, ih, List.length_cons, Nat.add_mul, Nat.one_mul, Nat.add_comm]
theorem Gx.at {α : Type} {enc : α → List AV} {s : Nat} (he : ∀ a, (enc a).length = s) {H : AHeap} {v : AV} {l : List α} {P : Nat → Prop} (h : Gx H s v l.length (l.flatMap enc) P) {j : Nat} (hj : j < l.length) : ∃ x cl, v = .slice (some (x, 0)) s l.length cl ∧ P x ∧ x < H.next ∧ Rd H x (j * s) (enc l[j]) := by
  obtain ⟨hl, x, cl, rfl, hp, ha⟩ := h
  refine ⟨x, cl, rfl, hp, ha.1, ?_⟩
  have hle : (j + 1) * s ≤ l.length * s := Nat.mul_le_mul_right s (by omega)
  rw [Nat.add_mul, Nat.one_mul] at hle
  rcases ha.rd.part (j * s) s with hr | hr
  · rw [flat_at he l j hj, Nat.zero_add] at hr
    exact hr
  · rw [hl] at hr; omega
theorem clC_len (c : UClass) : (clC c).length = 4 := rfl
theorem Gx.sh {H : AHeap} {s n : Nat} {v : AV} {cs : List AV} {P : Nat → Prop} (h : Gx H s v n cs P) : ∃ a c, v = .slice a s n c := by
  obtain ⟨-, x, cl, rfl, -⟩ := h
  exact ⟨_, _, rfl⟩
abbrev GxC (H0 : AHeap) (H : AHeap) (l : List UClass) (vc : AV) : Prop := Gx H 4 vc l.length (l.flatMap clC) fun z => H0.next + 3 ≤ z ∧ z < H.next
theorem GxC.nxx {H0 H H' : AHeap} {b : Nat} {l : List UClass} {vc : AV} (h : GxC H0 H l vc) (k : NX b H H') (hb : b < H0.next) : GxC H0 H' l vc :=
  (h.keep k.n fun z hz hn => k.g z hn (by omega)).mono fun z hz => ⟨hz.1, by have := k.n; omega⟩
theorem GxC.hi {H0 H H' : AHeap} {l : List UClass} {vc : AV} (h : GxC H0 H l vc) (hn : H.next ≤ H'.next) (hg : ∀ z, H0.next + 3 ≤ z → z < H.next → H'.get z = H.get z) : GxC H0 H' l vc :=
  (h.keep hn fun z hz h2 => hg z hz.1 h2).mono fun z hz => ⟨hz.1, by omega⟩
theorem clAt_app {l : List UClass} {c : UClass} {j : Int} (h0 : 0 ≤ j) (h : j < l.length) : clAt (l ++ [c]) j = clAt l j := by
  have hj : j.toNat < l.length := by omega
  unfold clAt
  rw [List.getD_eq_getElem?_getD, List.getD_eq_getElem?_getD, List.getElem?_append_left hj]
theorem clsOk.fields : ∀ {n : Nat} {l : List UClass}, clsOk l n → ∀ j : Nat, 2 ≤ j → j < l.length → 0 ≤ (clAt l j).fields ∧ (clAt l j).fields ≤ 3 + 2 * ((j : Int) - 2)
  | 0, l, h, j, h2, hj => by
    rw [show l = cls0 from h] at hj
    simp [cls0] at hj; omega
  | n + 1, l, ⟨l', c, e, h, hs⟩, j, h2, hj => by
    have hlen := h.len
    by_cases hlt : j < l'.length
    · rw [e, clAt_app (by omega) (by omega)]
      exact h.fields j h2 hlt
    · have hj' : j = l'.length := by rw [e] at hj; simp at hj; omega
      have : clAt l (j : Int) = c := by
        rw [e, hj', clAt, Int.toNat_natCast, List.getD_eq_getElem?_getD, List.getElem?_append_right (Nat.le_refl _)]; simp
      rw [this]
      obtain ⟨-, h1, h2, -⟩ := hs
      omega
def FA (H : AHeap) (x n : Nat) (f : Nat → AV) (P : Nat → Prop) : Prop := x < H.next ∧ ∃ c par, H.get x = .cells c n true par ∧ (∀ i, i < n → c.get i = some (f i)) ∧ ∀ z, z ∈ par → P z
theorem FA.of {H : AHeap} {x : Nat} {cs : List AV} {P : Nat → Prop} (h : Arr H x cs P) : FA H x cs.length (fun i => cs.getD i (.bool false)) P := by
  obtain ⟨hx, c, par, hc, hf, hp⟩ := h
  refine ⟨hx, c, par, hc, fun i hi => ?_, hp⟩
  show c.get i = some (cs.getD i (.bool false))
  rw [List.getD_eq_getElem?_getD, List.getElem?_eq_getElem hi]
  exact hf i _ (List.getElem?_eq_getElem hi)
theorem FA.keep {H H' : AHeap} {x n : Nat} {f : Nat → AV} {P : Nat → Prop} (h : FA H x n f P) (hl : H.next ≤ H'.next) (hg : H'.get x = H.get x) : FA H' x n f P := by
  obtain ⟨hx, c, par, hc, hf, hp⟩ := h
  exact ⟨by omega, c, par, by rw [hg]; exact hc, hf, hp⟩
theorem FA.store {H : AHeap} {x n i : Nat} {f : Nat → AV} {P : Nat → Prop} (h : FA H x n f P) (hi : i < n) (v : AV) : ∃ H', storeA H x i [v] = some H' ∧ H'.next = H.next ∧ FA H' x n (fun j => if j = i then v else f j) P ∧ ∀ y, y ≠ x → ¬ P y → H'.get y = H.get y := by
  obtain ⟨hx, c, par, hc, hf, hp⟩ := h
  refine ⟨(killAll H par).put x (.cells (ofL [v] i c) n true []), ?_, by rw [next_put, next_killAll], ⟨by rw [next_put, next_killAll]; exact hx, ofL [v] i c, [], by rw [get_put, if_pos rfl], fun j hj => ?_, by simp⟩, fun y hy hpy => ?_⟩
  · unfold storeA
    rw [hc]
    have : (i + [v].length).ble n = true := Nat.ble_eq_true_of_le (by simp; omega)
    simp only [this, cond_true]
  · rw [get_ofL]
    by_cases h1 : j = i
    · subst h1
      rw [if_pos (by simp)]; simp
    · rw [if_neg (by simp; omega)]
      show c.get j = some (if j = i then v else f j)
      rw [if_neg h1]
      exact hf j hj
  · rw [get_put, if_neg (Ne.symm hy), get_killAll _ _ _ (fun e => hpy (hp y e))]
theorem FA.ld {H : AHeap} {x n : Nat} {f : Nat → AV} {P : Nat → Prop} (h : FA H x n f P) {i : Nat} (hi : i < n) : loadA H x i 1 = some [f i] := by
  obtain ⟨hx, c, par, hc, hf, hp⟩ := h
  have r : Rd H x i [f i] := ⟨hx, c, n, true, par, hc, by simp; omega, fun j v hj => by
    have := (List.getElem?_eq_some_iff.1 hj).1
    obtain rfl : j = 0 := by simpa using this
    obtain rfl : f i = v := by simpa using hj
    exact hf i hi⟩
  exact r.load rfl
def selS (S : Nat → Bool) : Nat → List Pr2
  | 0 => []
  | j + 1 => selS S j ++ if S j then [((j : Int), (j : Int))] else []
theorem selS_congr {S S' : Nat → Bool} : ∀ (n : Nat), (∀ k, k < n → S k = S' k) → selS S n = selS S' n
  | 0, _ => rfl
  | n + 1, h => by rw [selS, selS, selS_congr n fun k hk => h k (by omega), h n (by omega)]
theorem selS_len (S : Nat → Bool) : ∀ n, (selS S n).length ≤ n
  | 0 => Nat.le_refl _
  | n + 1 => by
    have := selS_len S n
    rw [selS, List.length_append]
    split <;> simp <;> omega
theorem clC_get (l : List UClass) {q j : Nat} (hq : q < l.length) (hj : j < 4) : (l.flatMap clC).getD (q * 4 + j) (.bool false) = (clC l[q]).getD j (.bool false) := by
  have h := flat_at clC_len l q hq
  have : ((l.flatMap clC).drop (q * 4))[j]? = (clC l[q])[j]? := by rw [← h, List.getElem?_take, if_pos hj]
  rw [List.getElem?_drop] at this
  rw [List.getD_eq_getElem?_getD, List.getD_eq_getElem?_getD, this]
theorem SlE.sld {H H' : AHeap} {xs : List Pr2} {v : AV} (h : SlE PrE 2 H xs [v]) (hn : H.next ≤ H'.next) (hs : ∀ y i s n e, v = .slice (some (y, i)) s n e → y < H.next → Seal H H' y) : SlE PrE 2 H' xs [v] := by
  obtain ⟨a, s0, cl, e, k0, k1, k⟩ := h
  refine ⟨a, s0, cl, e, k0, k1, fun h0 => ?_⟩
  obtain ⟨x, o, cs, rfl, hr, hl, hj⟩ := k h0
  cases e
  exact ⟨x, o, cs, rfl, hr.kseal hn (hs _ _ _ _ _ rfl hr.1), hl, hj⟩
structure CB (m : Nat) (l : List UClass) (H : AHeap) (f : Nat → AV) (c d : Nat) : Prop where
  a : ∀ q (hq : q < l.length), f (q * 4) = .str l[q].name ∧ f (q * 4 + 1) = iv l[q].super ∧ f (q * 4 + 2) = iv l[q].fields
  z : ∀ q, q < l.length → q = 0 ∨ c ≤ q → f (q * 4 + 3) = .slice none 1 0 true
  d : ∀ q, q < l.length → 1 ≤ q → q < d → ∃ S, SlE PrE 2 H (selS S 6) [f (q * 4 + 3)] ∧ ∀ y i s n e, f (q * 4 + 3) = .slice (some (y, i)) s n e → m ≤ y
theorem CB.keep {m : Nat} {l : List UClass} {H H' : AHeap} {f : Nat → AV} {c d : Nat} (h : CB m l H f c d) (hn : H.next ≤ H'.next) (hs : ∀ y, m ≤ y → y < H.next → Seal H H' y) : CB m l H' f c d :=
  ⟨h.a, h.z, fun q h1 h2 h3 => by
    obtain ⟨S, k1, k2⟩ := h.d q h1 h2 h3
    exact ⟨S, k1.sld hn fun y i s n e he hy => hs y (k2 y i s n e he) hy, k2⟩⟩
theorem CB.upd {m : Nat} {l : List UClass} {H : AHeap} {f : Nat → AV} {c d : Nat} (h : CB m l H f c d) {p : Nat} (hp : 1 ≤ p) (hpc : p < c) (hpd : d ≤ p) (v : AV) : CB m l H (fun j => if j = p * 4 + 3 then v else f j) c d := by
  refine ⟨fun q hq => ?_, fun q hq hc => ?_, fun q h1 h2 h3 => ?_⟩
  · have := h.a q hq
    rw [if_neg (by omega), if_neg (by omega), if_neg (by omega)]
    exact this
  · have := h.z q hq hc
    rw [if_neg (by omega)]
    exact this
  · have := h.d q h1 h2 h3
    rw [if_neg (by omega)]
    exact this
def ObG (lo : Nat) (u : Option Nat) : Rep UObj := fun H o l => ∃ v, l = [iv o.cls, v] ∧ I64 o.cls ∧ GrS lo PrO 2 H o.fields v ∧ (∀ z, ub v = some z → u ≠ some z) ∧ o.fields.length ≤ maxLen
theorem ObG.mono {lo : Nat} : OMono lo (ObG lo) := fun H H' u u' a l ⟨v, e, h1, h3, h5, h7⟩ k1 k2 k3 => by
  have b1 := fun z hz => h3.ubl (z := z) hz
  exact ⟨v, e, h1, h3.keep1 k1 fun z hz => k2 z (b1 z hz).1 (b1 z hz).2 (h5 z hz), fun z hz e => by
    rcases k3 z e with h | h
    · have := (b1 z hz).2; omega
    · exact h5 z hz h, h7⟩
theorem ObG.ob {lo : Nat} {H : AHeap} (u : Option Nat) (a : UObj) (l : List AV) (h : ObG lo u H a l) : ObE H a l := by
  obtain ⟨v, e, h1, h3, -, h5⟩ := h
  exact ⟨v, e, h1, h3.slE (fun _ _ _ h => h) h5⟩
def vOk (n : Nat) (v : Pr2) : Prop := ((v.1 = 0 ∨ v.1 = 1 ∨ v.1 = 2) ∧ v.2 = 0) ∨ (v.1 = 3 ∧ -400 ≤ v.2 ∧ v.2 ≤ 500) ∨ (v.1 = 4 ∧ 0 ≤ v.2 ∧ v.2 < n)
def objOk (n : Nat) (l : List UClass) (o : UObj) : Prop := ((o.cls = 1 ∧ o.fields.length ≤ 8) ∨ (2 ≤ o.cls ∧ o.cls < l.length ∧ (o.fields.length : Int) = (clAt l o.cls).fields)) ∧ ∀ v, v ∈ o.fields → vOk n v
attribute [local go_sem ↓] WP_seq WP_skip WP_region WP_dregion WP_cond WP_block WP_exit WP_ret OW_nil OW_cons DW_nil DW_cons XW_call reduceIte OW_guard DW_guard
attribute [local go_sem] XW exA KO_eq OptK_some EvK_some GW2_true GW2_false KS_normal KS_ret KS_exit KB_normal KB_ret KB_exit CP2_bool RP_ret putA_some putA_none ev_t ev_c evs evo wantA initA resA Tr.get_set vl chkOk cond_true cond_false Nat.add_zero Nat.mul_one Nat.one_mul Nat.zero_add Nat.zero_mul aggOf pInt binA unA intA beq_true beq_false Bool.not_true Bool.not_false Bool.not_eq_true and_self and_true true_and reduceIte Nat.reduceEqDiff Nat.succ_ne_self Nat.reduceAdd Nat.reduceMul Nat.reduceSub Nat.reduceBEq Nat.reduceLT Nat.reduceLeDiff Int.cast_ofNat_Int Int.reduceToNat Int.reduceLT Int.reduceLE Int.reduceGE Int.reduceGT Int.reduceEq Int.reduceNe Int.reduceAdd Int.reduceSub Int.reduceNeg decide_true decide_false Int.toNat_natCast reduceCtorEq List.nil_append List.cons_append AV.boxy AV.cells List.length_cons List.length_nil Nat.beq_refl AOp.cl KDW_0 KDW_1 KDW_2 OWskip_eq DWskip_eq fillA setAt DChk DAt stepA ble_dec beq_dec Bool.and_self Bool.and_true Bool.true_and Bool.and_false Bool.false_and List.take_succ_cons List.take_zero List.drop_succ_cons List.drop_zero List.take_nil List.drop_nil List.append_nil eqAV eqAVL BEq.rfl sameS Option.map Option.isNone wrap64 gt_iff_lt ge_iff_le Int.lt_irrefl Int.le_refl
set_option maxHeartbeats 4000000
def argsK (i : Nat) : Int := if i = 1 ∨ i = 2 then 1 else if i = 3 then 2 else 0
theorem argsK_le (i : Nat) : 0 ≤ argsK i ∧ argsK i ≤ 2 := by
  unfold argsK
  repeat' split
  all_goals omega
theorem c_kargs {H : AHeap} {i : Nat} (hi : i < 6) : CW MN 24 [.int .i64 (i : Int)] H fun w H' => w = .int .i64 (argsK i) ∧ Sm H H' := by
  refine CW_of (fn := af24) rfl ?_
  dsimp only [af24, qm, q, qG, qn, qi, qb, qB, qk, qc, qo, qg, qv, qr]
  have s1 := Chg.newRow H [.int .i64 0, .int .i64 1, .int .i64 1, .int .i64 2, .int .i64 0, .int .i64 0]
  have r := Rd.newRow H [.int .i64 0, .int .i64 1, .int .i64 1, .int .i64 2, .int .i64 0, .int .i64 0]
  have hl : ∃ v, ([.int .i64 0, .int .i64 1, .int .i64 1, .int .i64 2, .int .i64 0, .int .i64 0] : List AV)[i]? = some v ∧ v = .int .i64 (argsK i) := by
    rcases (by omega : i = 0 ∨ i = 1 ∨ i = 2 ∨ i = 3 ∨ i = 4 ∨ i = 5) with rfl | rfl | rfl | rfl | rfl | rfl <;> exact ⟨_, rfl, rfl⟩
  obtain ⟨v, hv, rfl⟩ := hl
  have ld := r.one hv
  rw [Nat.zero_add] at ld
  have i0 : (0 : Int) ≤ (i : Int) := by omega
  have i6 : (i : Int) < 6 := by omega
  generalize eH : H.newRow [.int .i64 0, .int .i64 1, .int .i64 1, .int .i64 2, .int .i64 0, .int .i64 0] = H1 at *
  simp -implicitDefEqProofs only [eH, ld, i0, i6, go_sem]
  exact s1
theorem MeG.low {lo lo' : Nat} {u : Option Nat} {H : AHeap} {m : UMethod} {l : List AV} (h : MeG lo none H m l) (hl : lo' ≤ lo) (hu : ∀ z, u = some z → z < lo) : MeG lo' u H m l := by
  obtain ⟨v, w, e, h1, h2, h3, h4, -, -, h5⟩ := h
  exact ⟨v, w, e, h1, h2, h3.low hl, h4.low hl, fun z hz e => by have := (h3.ubl hz).1; have := hu z e; omega, fun z hz e => by have := (h4.1.ubP hz).1; have := hu z e; omega, h5⟩
def methsOk (size : Int) (ms : List UMethod) (n : Nat) : Prop := ms.length = n ∧ ∀ j (hj : j < ms.length), methOk size (argsK j) ms[j]
theorem methsOk.snoc {size : Int} {ms : List UMethod} {n : Nat} {m : UMethod} (h : methsOk size ms n) (hm : methOk size (argsK n) m) : methsOk size (ms ++ [m]) (n + 1) := by
  refine ⟨by rw [List.length_append, h.1]; rfl, fun j hj => ?_⟩
  by_cases hlt : j < ms.length
  · rw [List.getElem_append_left hlt]; exact h.2 j hlt
  · have : j = n := by rw [List.length_append, h.1] at hj; simp at hj; have := h.1; omega
    subst this
    rw [List.getElem_append_right (by omega)]
    simp only [h.1, Nat.sub_self, List.getElem_cons_zero]
    exact hm
theorem GrS.pushC {α : Type} {E : Option Nat → Rep α} {lo s : Nat} {H : AHeap} {xs : List α} {v : AV} (hE : OMono lo E) (h : GrS lo E s H xs v) (hlo : lo ≤ H.next) {as : List α} {Y : List AV} (hY : Y.length = as.length * s) (h0 : as.length ≠ 0) (ha : ∀ j (hj : j < as.length), E (ub v) H as[j] ((Y.drop (j * s)).take s)) {bytes : Nat} (hb : (xs.length + as.length) * bytes ≤ 140737488355328) (hm : xs.length + as.length ≤ 140737488355328) :
    ∃ H2, appendF (H.newRow Y) s bytes false v (.slice (some (H.next, 0)) s as.length true) = some (.slice (some (H.next + 1, 0)) s (xs.length + as.length) false, H2) ∧ H2.next = H.next + 2 ∧ Chg H H2 (ub v) ∧ GrS lo E s H2 (xs ++ as) (.slice (some (H.next + 1, 0)) s (xs.length + as.length) false) := by
  obtain ⟨cs, h1, h2⟩ := h
  obtain ⟨H2, e1, e2, e3, e4⟩ := h1.pushN (ys := Y) (m := as.length) (fun z hz => hz.2) hY h0 hb hm
  have hen : (xs ++ as).length = xs.length + as.length := by simp
  refine ⟨H2, e1, e2, e3, cs ++ Y, ?_, fun j hj => ?_⟩
  · rw [hen]
    exact e4.mono fun z hz => by rcases hz with hz | rfl <;> omega
  · have hcl := h1.1
    have kp : ∀ b l, E (ub v) H b l → E (some (H.next + 1)) H2 b l := fun b l hb => hE _ _ _ _ _ _ hb (by omega) (fun z z1 z2 z3 => e3.keep z2 z3) fun z hz => .inl (by have := Option.some.inj hz; omega)
    show E (some (H.next + 1)) H2 _ _
    by_cases hlt : j < xs.length
    · have hle : (j + 1) * s ≤ xs.length * s := Nat.mul_le_mul_right s (by omega)
      rw [Nat.add_mul, Nat.one_mul] at hle
      have e : ((cs ++ Y).drop (j * s)).take s = (cs.drop (j * s)).take s := by
        rw [List.drop_append_of_le_length (by omega), List.take_append_of_le_length (by simp; omega)]
      rw [e, List.getElem_append_left hlt]
      exact kp _ _ (h2 j hlt)
    · rw [hen] at hj
      obtain ⟨q, rfl⟩ : ∃ q, j = xs.length + q := ⟨j - xs.length, by omega⟩
      have e : (cs ++ Y).drop ((xs.length + q) * s) = Y.drop (q * s) := by
        rw [Nat.add_mul, ← hcl, ← List.drop_drop, List.drop_left]
      rw [e, List.getElem_append_right (by omega)]
      simp only [show xs.length + q - xs.length = q by omega]
      exact kp _ _ (ha q (by omega))
theorem MeG.nx {lo b : Nat} {H H' : AHeap} {m : UMethod} {l : List AV} (h : MeG lo none H m l) (k : NX b H H') (hb : b < lo) : MeG lo none H' m l :=
  MeG.mono _ _ _ _ _ _ h k.n (fun z z1 z2 _ => k.g z z2 (by omega)) fun z hz => by cases hz
def TU (u : UUnit) : Prop := u.names = nmsU ∧ u.main = 6 ∧ ∃ (l : List UClass) (i : Nat) (S : Nat → Nat → Bool), 1 ≤ i ∧ i ≤ 3 ∧ clsOk l i ∧ u.classes.length = l.length ∧ (∀ q (hq : q < l.length) (hq' : q < u.classes.length), u.classes[q] = ⟨l[q].name, l[q].super, l[q].fields, if q = 0 then [] else selS (S q) 6⟩) ∧ u.methods.length = 9 ∧ (∀ q (hq : q < u.methods.length), methOk l.length (if q = 8 then 1 else argsK q) u.methods[q]) ∧ 1 ≤ u.objects.length ∧ u.objects.length ≤ 5 ∧ ∀ o, o ∈ u.objects → objOk u.objects.length l o
theorem FA.rd {H : AHeap} {x n : Nat} {f : Nat → AV} {P : Nat → Prop} (h : FA H x n f P) : Rd H x 0 ((List.range n).map f) := by
  obtain ⟨hx, c, par, hc, hf, hp⟩ := h
  refine ⟨hx, c, n, true, par, hc, by simp, fun j v hj => ?_⟩
  have hj' := (List.getElem?_eq_some_iff.1 hj).1
  simp only [List.length_map, List.length_range] at hj'
  rw [List.getElem?_map, List.getElem?_range hj'] at hj
  obtain rfl := Option.some.inj hj
  rw [Nat.zero_add]
  exact hf j hj'
theorem map_range4 (f : Nat → AV) {n j : Nat} (h : j * 4 + 4 ≤ n) : (((List.range n).map f).drop (j * 4)).take 4 = [f (j * 4), f (j * 4 + 1), f (j * 4 + 2), f (j * 4 + 3)] := by
  refine List.ext_getElem (by simp; omega) fun k h1 h2 => ?_
  simp only [List.length_cons, List.length_nil] at h2
  rw [List.getElem_take, List.getElem_drop, List.getElem_map, List.getElem_range]
  rcases (by omega : k = 0 ∨ k = 1 ∨ k = 2 ∨ k = 3) with rfl | rfl | rfl | rfl <;> rfl
theorem clsOk.all : ∀ {n : Nat} {l : List UClass}, clsOk l n → n ≤ 3 → ∀ c, c ∈ l → stOk c.name ∧ I64 c.super ∧ I64 c.fields
  | 0, l, h, _, c, hc => by
    rw [show l = cls0 from h] at hc
    simp only [cls0, List.mem_cons, List.not_mem_nil, or_false] at hc
    rcases hc with rfl | rfl
    · refine ⟨⟨?_, by simp⟩, by simp [I64], by simp [I64]⟩
      simp
    · refine ⟨⟨?_, by simp⟩, by simp [I64], by simp [I64]⟩
      simp
  | n + 1, l, ⟨l', c', e, h, hs⟩, hn, c, hc => by
    rw [e] at hc
    rcases List.mem_append.1 hc with hc | hc
    · exact h.all (by omega) c hc
    · obtain rfl : c = c' := by simpa using hc
      obtain ⟨h1, h2, h3, -, h4⟩ := hs
      have := h.len
      refine ⟨?_, by unfold I64; omega, by unfold I64; omega⟩
      rw [h1]
      refine ⟨fun x hx => ?_, by simp⟩
      simp only [List.mem_cons, List.not_mem_nil, or_false] at hx
      omega
theorem c_Unit {H : AHeap} {b : Nat} (ht : TapeR H b) : CW MN 9 [.ptr (some (b, 0))] H fun w H' => ∃ u cu, w = .agg cu ∧ UnE H' u cu ∧ TU u ∧ H.next ≤ H'.next ∧ ∀ z, z < H.next → z ≠ b → H'.get z = H.get z := by
  refine CW_of (fn := af9) rfl ?_
  dsimp only [af9, qm, q, qG, qn, qi, qb, qB, qk, qc, qo, qg, qv, qr]
  have hbl := ht.lt
  -- the blocks below the rows
  have sr := Chg.newRow H [.slice none 1 0 true, .slice none 1 0 true, .slice none 1 0 true, .slice none 1 0 true, .int .i64 0]
  have ar := Arr.newRow H [.slice none 1 0 true, .slice none 1 0 true, .slice none 1 0 true, .slice none 1 0 true, .int .i64 0] fun _ => False
  have hnr : (H.newRow [.slice none 1 0 true, .slice none 1 0 true, .slice none 1 0 true, .slice none 1 0 true, .int .i64 0]).next = H.next + 1 := rfl
  generalize eHr : H.newRow [.slice none 1 0 true, .slice none 1 0 true, .slice none 1 0 true, .slice none 1 0 true, .int .i64 0] = H1 at sr ar hnr
  simp -implicitDefEqProofs only [eHr, go_sem]
  refine CW.mono (c_kNames H1) ?_
  rintro _ _ ⟨rfl, rfl⟩
  have sn := Chg.newRow H1 (nmsU.map AV.str)
  have rn := Rd.newRow H1 (nmsU.map AV.str)
  have hnn : (H1.newRow (nmsU.map AV.str)).next = H1.next + 1 := rfl
  generalize H1.newRow (nmsU.map AV.str) = H2 at sn rn hnn
  obtain ⟨H3, e3, n3, s3, a3⟩ := store_own H2 [.slice none 1 0 true, .slice none 1 0 true, .slice none 1 0 true, .slice none 1 0 true, .int .i64 0] [.slice (some (H1.next, 0)) 1 6 true, .slice none 1 0 true, .slice none 1 0 true, .slice none 1 0 true, .int .i64 6] rfl
  have s03 : Sm H H3 := (sr.trans sn).trans s3
  have ub : UB H b (.slice none 1 0 true) (.slice none 1 0 true) (.slice none 1 0 true) H3 := by
    refine ⟨ht.sm s03, hbl, fun z hz _ => s03.gt hz, by omega, (ar.sm sn).sm s3, ?_, ?_⟩
    · rw [← hnr]; exact rn.keep s3.1 (s3.gt rn.1)
    · rw [show H.next + 2 = H2.next by omega, ← hnr]; exact a3
  have hx1 : H1.next = H.next + 1 := hnr
  have hx2 : H2.next = H.next + 2 := by omega
  have hx3 : H3.next = H.next + 3 := by omega
  -- the first two classes
  have s4 := Chg.newRow H3 (cls0.flatMap clC)
  have a4 := Arr.newRow H3 (cls0.flatMap clC) fun _ => False
  have hn4 : (H3.newRow (cls0.flatMap clC)).next = H3.next + 1 := rfl
  have ub4 := ub.hi s4.1 fun z hz => s4.gt (by omega)
  have e4 : (cls0.flatMap clC : List AV) = [.str [66, 108, 111, 99, 107], .int .i64 (-1), .int .i64 4, .slice none 1 0 true, .str [65, 114, 114, 97, 121], .int .i64 (-1), .int .i64 0, .slice none 1 0 true] := rfl
  generalize eH4 : H3.newRow (cls0.flatMap clC) = H4 at s4 a4 hn4 ub4
  rw [e4] at eH4
  obtain ⟨H5, e5, n5, ub5, g5⟩ := ub4.put 1 (.slice (some (H3.next, 0)) 4 2 true) (.slice (some (H3.next, 0)) 4 2 true) _ _ (by omega) rfl
  have gx : GxC H H5 cls0 (.slice (some (H3.next, 0)) 4 2 true) := by
    refine ⟨rfl, H3.next, true, rfl, ⟨by omega, by omega⟩, ?_⟩
    obtain ⟨h1, c, par, h2, h3, h4⟩ := a4
    exact ⟨by omega, c, par, by rw [g5 _ (by omega)]; exact h2, h3, fun z hz => (h4 z hz).elim⟩
  rw [hx2, hx1] at e3
  simp -implicitDefEqProofs only [hx1, hx2, e3, eH4, e5, go_sem]
  clear e3 eH4 e5 ub ub4 s4 a4 s3 a3 sn rn sr ar eHr s03
  refine WP_mono (Q := fun ex fr H' => ex = .exit 0 ∧ fr.get 0 = some (.ptr (some (b, 0))) ∧ fr.get 2 = some (.ptr (some (H.next, 0))) ∧ fr.get 3 = some (.ptr (some (H.next + 2, 0))) ∧ ∃ (i : Nat) (l : List UClass) (vc : AV), 1 ≤ i ∧ i ≤ 3 ∧ clsOk l i ∧ GxC H H' l vc ∧ UB H b vc (.slice none 1 0 true) (.slice none 1 0 true) H') ?_ (WP_loop (fun n fr H' => fr.get 0 = some (.ptr (some (b, 0))) ∧ fr.get 2 = some (.ptr (some (H.next, 0))) ∧ fr.get 3 = some (.ptr (some (H.next + 2, 0))) ∧ ∃ (i : Nat) (l : List UClass) (vc : AV), n = 3 - i ∧ i ≤ 3 ∧ fr.get 4 = some (.int .i64 (i : Int)) ∧ clsOk l i ∧ GxC H H' l vc ∧ UB H b vc (.slice none 1 0 true) (.slice none 1 0 true) H') 3 ?_ ?_)
  rotate_left
  · simp -implicitDefEqProofs only [go_sem]
    exact ⟨0, cls0, _, rfl, by omega, rfl, rfl, gx, ub5⟩
  · rintro n fr K ⟨g0, g2, g3, i, l, vc, hn, hi, g4, hok, gx, ub⟩
    simp -implicitDefEqProofs only [g0, g4, go_sem]
    refine CW.mono (nx_next ub.tp 3 (by omega)) ?_
    rintro _ K1 ⟨⟨k, rfl, hk⟩, nx1, -⟩
    have gx := gx.nxx nx1 hbl
    have ub := ub.nxx nx1
    clear nx1
    by_cases hik : (i : Int) ≤ (k : Int)
    rotate_left
    · simp -implicitDefEqProofs only [hik, g0, g2, g3, Bool.false_eq_true, go_sem]
      exact ⟨i, l, vc, by omega, hi, hok, gx, ub⟩
    have hi2 : i ≤ 2 := by omega
    have hlen := hok.len
    have hw1 : IntKind.i64.wrap (48 + (i : Int)) = 48 + (i : Int) := wrap64 (by omega) (by omega)
    have c1 : ∀ G, convA (.int .i32) (.int .i64 (48 + (i : Int))) G = some (.int .i32 (48 + (i : Int)), G) := fun G => by
      rcases (by omega : i = 0 ∨ i = 1 ∨ i = 2) with rfl | rfl | rfl <;> rfl
    have c2 : ∀ G, convA .intStr (.int .i32 (48 + (i : Int))) G = some (.str [48 + i], G) := fun G => by
      rcases (by omega : i = 0 ∨ i = 1 ∨ i = 2) with rfl | rfl | rfl <;> rfl
    have c3 : binA .add (.sc .str) (.str [67]) (.str [48 + i]) = some (.str [67, 48 + i]) := rfl
    simp -implicitDefEqProofs only [hik, g0, g4, hw1, c1, c2, ↓c3, go_sem]
    refine CW.mono (nx_next ub.tp 4 (by omega)) ?_
    rintro _ K2 ⟨⟨f, rfl, hf⟩, nx2, -⟩
    have gx := gx.nxx nx2 hbl
    have ub := ub.nxx nx2
    clear nx2
    obtain ⟨K3, e3, n3', s3, a5⟩ := store_own K2 [.str [], .int .i64 0, .int .i64 0, .slice none 1 0 true] [.str [67, 48 + i], .int .i64 (-1), .int .i64 (f : Int), .slice none 1 0 true] rfl
    have gy := gx
    have gx := gx.hi s3.1 fun z _ hz => s3.gt hz
    have ub := ub.hi s3.1 fun z hz => s3.gt (by have := ub.nx; omega)
    have hy : H.next + 3 ≤ K2.next := by
      have := ub.nx
      obtain ⟨-, x, cl, -, hp, hx⟩ := gx
      omega
    generalize hyy : K2.next = y at *
    have fin : ∀ (K : AHeap) (c : UClass), clsStep l i c → GxC H K l vc → UB H b vc (.slice none 1 0 true) (.slice none 1 0 true) K → ∃ Ka Kb, loadA K (H.next + 2) 1 1 = some [vc] ∧ appendF (K.newRow (clC c)) 4 56 false vc (.slice (some (K.next, 0)) 4 1 true) = some (.slice (some (K.next + 1, 0)) 4 (l.length + 1) false, Ka) ∧ storeA Ka (H.next + 2) 1 [.slice (some (K.next + 1, 0)) 4 (l.length + 1) false] = some Kb ∧ clsOk (l ++ [c]) (i + 1) ∧ GxC H Kb (l ++ [c]) (.slice (some (K.next + 1, 0)) 4 (l.length + 1) false) ∧ UB H b (.slice (some (K.next + 1, 0)) 4 (l.length + 1) false) (.slice none 1 0 true) (.slice none 1 0 true) Kb := by
      intro K c hs gx ub
      have hnx := ub.nx
      have hcl : (l ++ [c]).length = l.length + 1 := by simp
      have hcf : (l ++ [c]).flatMap clC = l.flatMap clC ++ clC c := by simp
      obtain ⟨Ka, e1, n1, ch, g1⟩ := Gx.push (bytes := 56) gx (fun z hz => hz.2) (ys := clC c) rfl (by omega) (by omega)
      have hub : ∀ z, Go.Proofs.YtojeldemfccilaaGreatDoor.AA.ub vc = some z → H.next + 3 ≤ z := fun z hz => by
        obtain ⟨-, x, cl, rfl, hp, -⟩ := gx
        cases cl with
        | false => cases hz; exact hp.1
        | true => cases hz
      have ubA := ub.hi (H' := Ka) (by omega) fun z hz => ch.keep (by omega) fun e => by have := hub z e; omega
      obtain ⟨Kb, e2, n2, ubB, gB⟩ := ubA.put 1 (.slice (some (K.next + 1, 0)) 4 (l.length + 1) false) (.slice (some (K.next + 1, 0)) 4 (l.length + 1) false) _ _ (by omega) rfl
      refine ⟨Ka, Kb, ub.l.1, e1, e2, ⟨l, c, rfl, hok, hs⟩, ?_, ubB⟩
      show Gx Kb 4 _ (l ++ [c]).length ((l ++ [c]).flatMap clC) _
      rw [hcl, hcf]
      refine (Gx.keep (H' := Kb) (g1.mono (P' := fun z => H.next + 3 ≤ z ∧ z < Kb.next) fun z hz => ?_) (by omega) fun z hz _ => gB z (by omega))
      rcases hz with hz | rfl
      · exact ⟨hz.1, by omega⟩
      · omega
    have l4 := a5.rd.load (n := 4) rfl
    by_cases hi0 : (0 : Int) < (i : Int)
    rotate_left
    · obtain ⟨Ka, Kb, q1, q2, q3, q4, q5, q6⟩ := fin K3 ⟨[67, 48 + i], -1, f, []⟩ ⟨rfl, by dsimp only; omega, by dsimp only; omega, rfl, .inl rfl⟩ gx ub
      simp only [clC, iv] at q2
      obtain ⟨va, vs, rfl⟩ := gx.sh
      simp -implicitDefEqProofs only [hyy, hi0, g0, g2, g3, g4, e3, l4, q1, q2, q3, Bool.false_eq_true, go_sem]
      refine ⟨3 - (i + 1), by omega, i + 1, _, _, rfl, by omega, ?_, q4, q5, q6⟩
      rw [wrap64 (by omega) (by omega)]; rfl
    simp -implicitDefEqProofs only [hyy, hi0, g0, g2, g3, g4, e3, l4, go_sem]
    refine CW.mono (nx_next ub.tp 2 (by omega)) ?_
    rintro _ K4 ⟨⟨k2, rfl, hk2⟩, nx4, -⟩
    have hyb : y ≠ b := by omega
    have gx := gx.nxx nx4 hbl
    have ub := ub.nxx nx4
    have a5 := a5.nx nx4 hyb
    clear l4
    by_cases hk20 : (k2 : Int) = 0
    rotate_left
    · have hk2' : ((k2 : Int) == 0) = false := by simpa using hk20
      have l4 := a5.rd.load (n := 4) rfl
      obtain ⟨Ka, Kb, q1, q2, q3, q4, q5, q6⟩ := fin K4 ⟨[67, 48 + i], -1, f, []⟩ ⟨rfl, by dsimp only; omega, by dsimp only; omega, rfl, .inl rfl⟩ gx ub
      simp only [clC, iv] at q2
      obtain ⟨va, vs, rfl⟩ := gx.sh
      simp -implicitDefEqProofs only [hk2', g0, g2, g3, g4, l4, q1, q2, q3, Bool.false_eq_true, go_sem]
      refine ⟨3 - (i + 1), by omega, i + 1, _, _, rfl, by omega, ?_, q4, q5, q6⟩
      rw [wrap64 (by omega) (by omega)]; rfl
    have hk2' : ((k2 : Int) == 0) = true := by simpa using hk20
    simp -implicitDefEqProofs only [hk2', g0, g4, go_sem]
    refine CW.mono (nx_next ub.tp (i : Int) (by omega)) ?_
    rintro _ K5 ⟨⟨k3, rfl, hk3⟩, nx5, -⟩
    have gx := gx.nxx nx5 hbl
    have ub := ub.nxx nx5
    have a5 := a5.nx nx5 hyb
    have hw3 : IntKind.i64.wrap (2 + (k3 : Int)) = ((k3 + 2 : Nat) : Int) := by rw [wrap64 (by omega) (by omega)]; omega
    obtain ⟨K6, e6, n6, a6, g6⟩ := a5.store (o := 1) (vs := [.int .i64 ((k3 + 2 : Nat) : Int)]) (cs' := [.str [67, 48 + i], .int .i64 ((k3 + 2 : Nat) : Int), .int .i64 (f : Int), .slice none 1 0 true]) (by simp) rfl
    have g6' : ∀ z, z ≠ y → K6.get z = K5.get z := fun z hz => g6 z hz (fun h => h)
    have n34 := nx4.n; have n45 := nx5.n
    have hbn := ub.nx
    have ub6 := ub.hi (H' := K6) (by omega) fun z hz => g6' z (by omega)
    have hg6 : ∀ z, z < y → z ≠ b → K6.get z = K2.get z := fun z z1 z2 => by rw [g6' z (by omega), nx5.g z (by omega) z2, nx4.g z (by omega) z2, s3.gt (by omega)]
    have gy6 := gy.keep (H' := K6) (by omega) fun z hz _ => hg6 z (by omega) (by omega)
    have hsl : k3 + 2 < l.length := by omega
    have hfl := hok.fields (k3 + 2) (by omega) hsl
    have hck : clAt l ((k3 + 2 : Nat) : Int) = l[k3 + 2] := clAt_nat hsl
    rw [hck] at hfl
    obtain ⟨x, cl, rfl, hpx, hx6, rd6⟩ := Gx.at clC_len gy6 hsl
    have f6 := rd6.one (j := 2) rfl
    simp only [iv] at f6
    have l61 := a6.rd.one (j := 1) rfl
    rw [Nat.zero_add] at l61
    have b61 := ub6.l.1
    have hs0 : (0 : Int) ≤ ((k3 + 2 : Nat) : Int) := by omega
    have hsl' : ((k3 + 2 : Nat) : Int) < (l.length : Int) := by omega
    simp -implicitDefEqProofs only [hw3, e6, b61, l61, f6, hs0, hsl', g0, g3, go_sem]
    refine CW.mono (nx_next ub6.tp 3 (by omega)) ?_
    rintro _ K7 ⟨⟨k4, rfl, hk4⟩, nx7, -⟩
    have ub7 := ub6.nxx nx7
    have a7 := a6.nx nx7 hyb
    have l71 := a7.rd.one (j := 1) rfl
    rw [Nat.zero_add] at l71
    have b71 := ub7.l.1
    have f7 : loadA K7 x ((k3 + 2) * 4 + 2) 1 = some [.int .i64 l[k3 + 2].fields] := by rw [loadA_congr (nx7.g x hx6 (by omega))]; exact f6
    generalize hff : l[k3 + 2].fields = ff at *
    have hw7 : IntKind.i64.wrap (ff + (k4 : Int)) = ff + (k4 : Int) := wrap64 (by omega) (by omega)
    obtain ⟨K8, e8, n8, a8, g8⟩ := a7.store (o := 2) (vs := [.int .i64 (ff + (k4 : Int))]) (cs' := [.str [67, 48 + i], .int .i64 ((k3 + 2 : Nat) : Int), .int .i64 (ff + (k4 : Int)), .slice none 1 0 true]) (by simp) rfl
    have g8' : ∀ z, z ≠ y → K8.get z = K7.get z := fun z hz => g8 z hz (fun h => h)
    have n78 := nx7.n
    have ub8 := ub7.hi (H' := K8) (by omega) fun z hz => g8' z (by omega)
    have gx8 : GxC H K8 l (.slice (some (x, 0)) 4 l.length cl) := (gy6.keep (H' := K8) (by omega) fun z hz _ => by rw [g8' z (by omega), nx7.g z (by omega) (by omega)]).mono fun z hz => ⟨hz.1, by omega⟩
    have l84 := a8.rd.load (n := 4) rfl
    obtain ⟨Ka, Kb, q1, q2, q3, q4, q5, q6⟩ := fin K8 ⟨[67, 48 + i], ((k3 + 2 : Nat) : Int), ff + (k4 : Int), []⟩ ⟨rfl, by dsimp only; omega, by dsimp only; omega, rfl, .inr ⟨by dsimp only; omega, by dsimp only; omega, by dsimp only; rw [hck, hff]; omega⟩⟩ gx8 ub8
    simp only [clC, iv] at q2
    simp -implicitDefEqProofs only [hw7, e8, b61, l61, f6, hs0, hsl', b71, l71, f7, g0, g2, g3, g4, l84, q1, q2, q3, Bool.false_eq_true, go_sem]
    refine ⟨3 - (i + 1), by omega, i + 1, _, _, rfl, by omega, ?_, q4, q5, q6⟩
    rw [wrap64 (by omega) (by omega)]; rfl
  rintro ex fr K ⟨rfl, g0, g2, g3, i, l, vc, hi1, hi3, hok, gx, ub⟩
  have hlen := hok.len
  have hs3 : (3 : Int) ≤ (l.length : Int) := by omega
  have hs12 : (l.length : Int) ≤ 12 := by omega
  simp -implicitDefEqProofs only [g0, g2, g3, go_sem]
  refine CW.mono (c_kNames K) ?_
  rintro _ _ ⟨rfl, rfl⟩
  have sN := Chg.newRow K (nmsU.map AV.str)
  have ub := ub.hi sN.1 fun z hz => sN.gt (by have := ub.nx; omega)
  have gx := gx.hi sN.1 fun z _ hz => sN.gt hz
  generalize K.newRow (nmsU.map AV.str) = K0 at *
  clear sN
  have hK0 := ub.nx
  simp -implicitDefEqProofs only [g0, g2, g3, go_sem]
  refine WP_mono (Q := fun ex fr H' => ex = .exit 2 ∧ fr.get 0 = some (.ptr (some (b, 0))) ∧ fr.get 2 = some (.ptr (some (H.next, 0))) ∧ fr.get 3 = some (.ptr (some (H.next + 2, 0))) ∧ ∃ (ms : List UMethod) (vm : AV), methsOk l.length ms 6 ∧ GrS K0.next (MeG K0.next) 4 H' ms vm ∧ UB H b vc vm (.slice none 1 0 true) H' ∧ K0.next ≤ H'.next ∧ ∀ z, H.next + 3 ≤ z → z < K0.next → H'.get z = K0.get z) ?_ (WP_loop (fun n fr H' => fr.get 0 = some (.ptr (some (b, 0))) ∧ fr.get 2 = some (.ptr (some (H.next, 0))) ∧ fr.get 3 = some (.ptr (some (H.next + 2, 0))) ∧ fr.get 63 = some (.int .i64 6) ∧ ∃ (i : Nat) (ms : List UMethod) (vm : AV), n = 6 - i ∧ i ≤ 6 ∧ fr.get 64 = some (.int .i64 (i : Int)) ∧ methsOk l.length ms i ∧ GrS K0.next (MeG K0.next) 4 H' ms vm ∧ UB H b vc vm (.slice none 1 0 true) H' ∧ K0.next ≤ H'.next ∧ ∀ z, H.next + 3 ≤ z → z < K0.next → H'.get z = K0.get z) 6 ?_ ?_)
  rotate_left
  · simp -implicitDefEqProofs only [g0, g2, g3, go_sem]
    exact ⟨0, [], _, rfl, by omega, rfl, ⟨rfl, fun j hj => absurd hj (by simp)⟩, GrS.nil, ub, Nat.le_refl _, fun _ _ _ => trivial⟩
  · rintro n fr K1 ⟨g0, g2, g3, g63, i, ms, vm, hn, hi, g64, hms, gm, ub1, n1, kp1⟩
    by_cases hi6 : (i : Int) < 6
    rotate_left
    · obtain rfl : i = 6 := by omega
      simp -implicitDefEqProofs only [g0, g2, g3, g63, g64, hi6, Bool.false_eq_true, go_sem]
      exact ⟨ms, vm, hms, gm, ub1, n1, kp1⟩
    have b1 := ub1.l
    obtain ⟨b11, b12, -⟩ := b1
    have hbn := ub1.nx
    simp -implicitDefEqProofs only [g0, g2, g3, g63, g64, hi6, b12, go_sem]
    refine CW.mono (c_kargs (i := i) (by omega)) ?_
    rintro _ K2 ⟨rfl, s2⟩
    have ub2 := ub1.hi s2.1 fun z hz => s2.gt (by omega)
    obtain ⟨b21, b22, -⟩ := ub2.l
    obtain ⟨va, vs, rfl⟩ := gx.sh
    simp -implicitDefEqProofs only [g0, g2, g3, g63, g64, b21, go_sem]
    have hal := argsK_le i
    refine CW.mono (nx_method ub2.tp hal hs3 hs12 false) ?_
    rintro _ K3 ⟨m, lm, rfl, hmg, hmo, nx3⟩
    have ub3 := ub2.nxx nx3
    obtain ⟨b31, b32, -⟩ := ub3.l
    have n12 := s2.1; have n23 := nx3.n
    have hub := fun z (hz : Go.Proofs.YtojeldemfccilaaGreatDoor.AA.ub vm = some z) => gm.ubl hz
    have kp3 : ∀ z, H.next + 3 ≤ z → z < K1.next → K3.get z = K1.get z := fun z z1 z2 => by rw [nx3.g z (by omega) (by omega), s2.gt (by omega)]
    have gm3 := gm.keep MeG.mono (H' := K3) (by omega) fun z z1 z2 => kp3 z (by omega) z2
    have hml := hms.1
    obtain ⟨w1, w2, he, -⟩ := id hmg
    subst he
    have hel : MeG K0.next (Go.Proofs.YtojeldemfccilaaGreatDoor.AA.ub vm) K3 m [iv m.args, iv m.temps, w1, w2] := hmg.low (by omega) fun z hz => by have := (hub z hz).2; omega
    obtain ⟨K4, p1, p2, p3, p4⟩ := gm3.push MeG.mono (by omega) hel rfl (bytes := 64) (by omega) (by omega)
    have ubl := fun z (hz : Go.Proofs.YtojeldemfccilaaGreatDoor.AA.ub vm = some z) => (hub z hz).1
    have ub4 := ub3.hi (H' := K4) (by omega) fun z hz => p3.keep (by have := ub3.nx; omega) fun e => by have := ubl z e; omega
    obtain ⟨K5, q1, q2, ub5, q4⟩ := ub4.put 2 (.slice (some (K3.next + 1, 0)) 4 (ms.length + 1) false) _ (.slice (some (K3.next + 1, 0)) 4 (ms.length + 1) false) _ (by omega) rfl
    have gm5 := p4.keep MeG.mono (H' := K5) (by omega) fun z z1 z2 => q4 z (by omega)
    have sKn := Chg.newRow K3 [iv m.args, iv m.temps, w1, w2]
    have b3n := (ub3.hi sKn.1 fun z hz => sKn.gt (by have := ub3.nx; omega)).l.2.1
    simp only [iv] at p1 b3n
    obtain ⟨ma, mb, mc, rfl⟩ := gm.sh
    have hwi : IntKind.i64.wrap ((i : Int) + 1) = ((i + 1 : Nat) : Int) := by rw [wrap64 (by omega) (by omega)]; omega
    simp only [iv, go_sem, b11, b12, b21, b22, b31, b32, b3n, p1, q1, hwi, g0, g2, g3, g63, g64]
    refine ⟨6 - (i + 1), by omega, i + 1, ms ++ [m], _, rfl, by omega, rfl, hms.snoc hmo, gm5, ub5, by omega, fun z z1 z2 => ?_⟩
    rw [q4 z (by omega), p3.keep (by omega) (fun e => by have := ubl z e; omega), kp3 z z1 (by omega), kp1 z z1 z2]
  rintro ex fr K1 ⟨rfl, g0, g2, g3, ms, vm, hms, gm, ub1, n1, kp1⟩
  have hbn := ub1.nx
  obtain ⟨b11, b12, -⟩ := ub1.l
  obtain ⟨va, vs, rfl⟩ := gx.sh
  simp -implicitDefEqProofs only [g0, g2, g3, b11, b12, go_sem]
  refine CW.mono (nx_method ub1.tp (args := 0) (by omega) hs3 hs12 false) ?_
  rintro _ K2 ⟨m1, l1, rfl, hg1, ho1, nx2⟩
  have ub2 := ub1.nxx nx2
  obtain ⟨b21, b22, -⟩ := ub2.l
  simp -implicitDefEqProofs only [b21, b22, g0, g3, go_sem]
  refine CW.mono (nx_method ub2.tp (args := 0) (by omega) hs3 hs12 true) ?_
  rintro _ K3 ⟨m2, l2, rfl, hg2, ho2, nx3⟩
  have ub3 := ub2.nxx nx3
  obtain ⟨b31, b32, -⟩ := ub3.l
  simp -implicitDefEqProofs only [b31, b32, g0, g3, go_sem]
  refine CW.mono (nx_method ub3.tp (args := 1) (by omega) hs3 hs12 true) ?_
  rintro _ K4 ⟨m3, l3, rfl, hg3, ho3, nx4⟩
  have ub4 := ub3.nxx nx4
  obtain ⟨b41, b42, -⟩ := ub4.l
  have n12 := nx2.n; have n23 := nx3.n; have n34 := nx4.n
  have hub := fun z (hz : Go.Proofs.YtojeldemfccilaaGreatDoor.AA.ub vm = some z) => gm.ubl hz
  have kp4 : ∀ z, H.next + 3 ≤ z → z < K1.next → K4.get z = K1.get z := fun z z1 z2 => by rw [nx4.g z (by omega) (by omega), nx3.g z (by omega) (by omega), nx2.g z (by omega) (by omega)]
  have gm4 := gm.keep MeG.mono (H' := K4) (by omega) fun z z1 z2 => kp4 z (by omega) z2
  have hml := hms.1
  obtain ⟨v1, w1, he1, -⟩ := id hg1
  obtain ⟨v2, w2, he2, -⟩ := id hg2
  obtain ⟨v3, w3, he3, -⟩ := id hg3
  subst he1
  subst he2
  subst he3
  have hel : ∀ j (hj : j < [m1, m2, m3].length), MeG K0.next (Go.Proofs.YtojeldemfccilaaGreatDoor.AA.ub vm) K4 [m1, m2, m3][j] ((([iv m1.args, iv m1.temps, v1, w1] ++ [iv m2.args, iv m2.temps, v2, w2] ++ [iv m3.args, iv m3.temps, v3, w3]).drop (j * 4)).take 4) := fun j hj => by
    have hlow := fun (lo : Nat) (h : K1.next ≤ lo) z (hz : Go.Proofs.YtojeldemfccilaaGreatDoor.AA.ub vm = some z) => show z < lo from by have := (hub z hz).2; omega
    simp only [List.length_cons, List.length_nil] at hj
    rcases (by omega : j = 0 ∨ j = 1 ∨ j = 2) with rfl | rfl | rfl
    · exact ((hg1.nx nx3 (by omega)).nx nx4 (by omega)).low (by omega) (hlow _ (by omega))
    · exact (hg2.nx nx4 (by omega)).low (by omega) (hlow _ (by omega))
    · exact hg3.low (by omega) (hlow _ (by omega))
  obtain ⟨K5, p1, p2, p3, p4⟩ := gm4.pushC MeG.mono (by omega) (as := [m1, m2, m3]) (Y := [iv m1.args, iv m1.temps, v1, w1] ++ [iv m2.args, iv m2.temps, v2, w2] ++ [iv m3.args, iv m3.temps, v3, w3]) rfl (by simp) hel (bytes := 64) (by simp only [List.length_cons, List.length_nil]; omega) (by simp only [List.length_cons, List.length_nil]; omega)
  simp only [List.cons_append, List.nil_append, List.length_cons, List.length_nil, Nat.zero_add, Nat.reduceAdd] at p1 p4
  have sKn := Chg.newRow K4 [iv m1.args, iv m1.temps, v1, w1, iv m2.args, iv m2.temps, v2, w2, iv m3.args, iv m3.temps, v3, w3]
  obtain ⟨b4n1, b4n2, -⟩ := (ub4.hi sKn.1 fun z hz => sKn.gt (by have := ub4.nx; omega)).l
  have ubl := fun z (hz : Go.Proofs.YtojeldemfccilaaGreatDoor.AA.ub vm = some z) => (hub z hz).1
  have ub5 := ub4.hi (H' := K5) (by omega) fun z hz => p3.keep (by have := ub4.nx; omega) fun e => by have := ubl z e; omega
  obtain ⟨K6, q1, q2, ub6, q4⟩ := ub5.put 2 (.slice (some (K4.next + 1, 0)) 4 (ms.length + 3) false) _ (.slice (some (K4.next + 1, 0)) 4 (ms.length + 3) false) _ (by omega) rfl
  have gm6 := p4.keep MeG.mono (H' := K6) (by omega) fun z z1 z2 => q4 z (by omega)
  simp only [iv] at p1 b4n1 b4n2
  obtain ⟨ma, mb, mc, rfl⟩ := gm.sh
  simp only [iv, go_sem, b11, b12, b21, b22, b31, b32, b41, b42, b4n1, b4n2, p1, q1, g0, g2, g3]
  have kp6 : ∀ z, H.next + 3 ≤ z → z < K0.next → K6.get z = K0.get z := fun z z1 z2 => by
    rw [q4 z (by omega), p3.keep (by omega) (fun e => by have := ubl z e; omega), kp4 z z1 (by omega), kp1 z z1 z2]
  have n06 : K0.next ≤ K6.next := by omega
  clear p1 q1 p3 q4 gm gm4 hel ub5 ub4 ub3 ub2 ub1 b11 b12 b21 b22 b31 b32 b41 b42 b4n1 b4n2 hub kp4 ubl sKn nx2 nx3 nx4 p4
  have gx6 := Gx.keep (H' := K6) gx n06 fun z hz _ => kp6 z hz.1 hz.2
  obtain ⟨hcl, x, cl, hve, hpx, ax⟩ := gx6
  cases hve
  have fa := FA.of ax
  rw [flat_len clC_len] at fa
  have cb0 : CB K6.next l K6 (fun i => (l.flatMap clC).getD i (.bool false)) 1 1 := by
    refine ⟨fun q hq => ⟨?_, ?_, ?_⟩, fun q hq _ => ?_, fun q h1 h2 h3 => by omega⟩
    · exact clC_get l hq (j := 0) (by omega)
    · exact clC_get l hq (j := 1) (by omega)
    · exact clC_get l hq (j := 2) (by omega)
    · exact clC_get l hq (j := 3) (by omega)
  generalize hff : (fun i => (l.flatMap clC).getD i (.bool false)) = f0 at *
  clear hcl ax kp1 gx
  have hxl : x < K0.next := hpx.2
  refine WP_mono (Q := fun ex fr H' => ex = .exit 4 ∧ fr.get 0 = some (.ptr (some (b, 0))) ∧ fr.get 2 = some (.ptr (some (H.next, 0))) ∧ fr.get 3 = some (.ptr (some (H.next + 2, 0))) ∧ ∃ (f : Nat → AV), CB K6.next l H' f l.length l.length ∧ FA H' x (l.length * 4) f (fun z => (H.next + 3 ≤ z ∧ z < K0.next) ∧ z ≠ x) ∧ UB H b (.slice (some (x, 0)) 4 l.length vs) (.slice (some (K4.next + 1, 0)) 4 (ms.length + 3) false) (.slice none 1 0 true) H' ∧ K6.next ≤ H'.next ∧ ∀ z, K0.next ≤ z → z < K6.next → H'.get z = K6.get z) ?_ (WP_loop (fun n fr H' => fr.get 0 = some (.ptr (some (b, 0))) ∧ fr.get 2 = some (.ptr (some (H.next, 0))) ∧ fr.get 3 = some (.ptr (some (H.next + 2, 0))) ∧ ∃ (c : Nat) (f : Nat → AV), n = l.length - c ∧ 1 ≤ c ∧ c ≤ l.length ∧ fr.get 7 = some (.int .i64 (c : Int)) ∧ CB K6.next l H' f c c ∧ FA H' x (l.length * 4) f (fun z => (H.next + 3 ≤ z ∧ z < K0.next) ∧ z ≠ x) ∧ UB H b (.slice (some (x, 0)) 4 l.length vs) (.slice (some (K4.next + 1, 0)) 4 (ms.length + 3) false) (.slice none 1 0 true) H' ∧ K6.next ≤ H'.next ∧ ∀ z, K0.next ≤ z → z < K6.next → H'.get z = K6.get z) (l.length - 1) ?_ ?_)
  rotate_left
  · simp -implicitDefEqProofs only [g0, g2, g3, go_sem]
    exact ⟨1, f0, rfl, by omega, by omega, rfl, cb0, fa, ub6, Nat.le_refl _, fun _ _ _ => trivial⟩
  · rintro n fr L1 ⟨g0, g2, g3, c, f, hn, hc1, hcl, g7, cb, fa, ub1, n1, kp1⟩
    obtain ⟨b11, -, -⟩ := ub1.l
    by_cases hlt : (c : Int) < (l.length : Int)
    rotate_left
    · obtain rfl : c = l.length := by omega
      simp -implicitDefEqProofs only [g0, g2, g3, g7, hlt, b11, Bool.false_eq_true, go_sem]
      exact ⟨f, cb, fa, ub1, n1, kp1⟩
    simp -implicitDefEqProofs only [g0, g2, g3, g7, hlt, b11, go_sem]
    refine CW.mono (c_kNames L1) ?_
    rintro _ _ ⟨rfl, rfl⟩
    have sN := Chg.newRow L1 (nmsU.map AV.str)
    have nN := sN.1
    have ub1 := ub1.hi sN.1 fun z hz => sN.gt (by have := ub1.nx; omega)
    have fa := fa.keep sN.1 (sN.gt fa.1)
    have cb := cb.keep sN.1 fun y _ hy => .inl (sN.gt hy)
    have kp1 : ∀ z, K0.next ≤ z → z < K6.next → (L1.newRow (nmsU.map AV.str)).get z = K6.get z := fun z z1 z2 => by rw [sN.gt (by omega), kp1 z z1 z2]
    generalize L1.newRow (nmsU.map AV.str) = L2 at *
    clear sN
    simp -implicitDefEqProofs only [g0, g2, g3, g7, go_sem]
    have hcz := cb.z c (by omega) (.inr (Nat.le_refl _))
    have cb1 : CB K6.next l L2 f (c + 1) c := ⟨cb.a, fun q h1 h2 => cb.z q h1 (by omega), cb.d⟩
    have hg0 : GrS K6.next PrO 2 L2 (selS (fun _ => false) 0) (f (c * 4 + 3)) := by rw [hcz]; exact GrS.nil
    refine WP_mono (Q := fun ex fr H' => ex = .exit 6 ∧ fr.get 0 = some (.ptr (some (b, 0))) ∧ fr.get 2 = some (.ptr (some (H.next, 0))) ∧ fr.get 3 = some (.ptr (some (H.next + 2, 0))) ∧ fr.get 7 = some (.int .i64 (c : Int)) ∧ ∃ (f : Nat → AV) (S : Nat → Bool), CB K6.next l H' f (c + 1) c ∧ GrS K6.next PrO 2 H' (selS S 6) (f (c * 4 + 3)) ∧ FA H' x (l.length * 4) f (fun z => (H.next + 3 ≤ z ∧ z < K0.next) ∧ z ≠ x) ∧ UB H b (.slice (some (x, 0)) 4 l.length vs) (.slice (some (K4.next + 1, 0)) 4 (ms.length + 3) false) (.slice none 1 0 true) H' ∧ K6.next ≤ H'.next ∧ ∀ z, K0.next ≤ z → z < K6.next → H'.get z = K6.get z) ?_ (WP_loop (fun n fr H' => fr.get 0 = some (.ptr (some (b, 0))) ∧ fr.get 2 = some (.ptr (some (H.next, 0))) ∧ fr.get 3 = some (.ptr (some (H.next + 2, 0))) ∧ fr.get 7 = some (.int .i64 (c : Int)) ∧ fr.get 108 = some (.int .i64 6) ∧ ∃ (j : Nat) (f : Nat → AV) (S : Nat → Bool), n = 6 - j ∧ j ≤ 6 ∧ fr.get 109 = some (.int .i64 (j : Int)) ∧ CB K6.next l H' f (c + 1) c ∧ GrS K6.next PrO 2 H' (selS S j) (f (c * 4 + 3)) ∧ FA H' x (l.length * 4) f (fun z => (H.next + 3 ≤ z ∧ z < K0.next) ∧ z ≠ x) ∧ UB H b (.slice (some (x, 0)) 4 l.length vs) (.slice (some (K4.next + 1, 0)) 4 (ms.length + 3) false) (.slice none 1 0 true) H' ∧ K6.next ≤ H'.next ∧ ∀ z, K0.next ≤ z → z < K6.next → H'.get z = K6.get z) 6 ?_ ?_)
    rotate_left
    · simp -implicitDefEqProofs only [g0, g2, g3, g7, go_sem]
      exact ⟨0, f, fun _ => false, rfl, by omega, rfl, cb1, hg0, fa, ub1, by omega, kp1⟩
    · clear cb cb1 hg0 hcz fa ub1 kp1 nN n1
      rintro n fr M1 ⟨g0, g2, g3, g7, g108, j, f, S, hn, hj, g109, cb, gr, fa, ub1, n1, kp1⟩
      by_cases hj6 : (j : Int) < 6
      rotate_left
      · obtain rfl : j = 6 := by omega
        simp -implicitDefEqProofs only [g0, g2, g3, g7, g108, g109, hj6, Bool.false_eq_true, go_sem]
        exact ⟨f, S, cb, gr, fa, ub1, n1, kp1⟩
      simp -implicitDefEqProofs only [g0, g2, g3, g7, g108, g109, hj6, go_sem]
      refine CW.mono (nx_next ub1.tp 3 (by omega)) ?_
      rintro _ M2 ⟨⟨k, rfl, hk⟩, nx2, -⟩
      have n12 := nx2.n
      have ub2 := ub1.nxx nx2
      have hbn := ub1.nx
      have fa2 := fa.keep nx2.n (nx2.g x fa.1 (by omega))
      have cb2 := cb.keep nx2.n fun y hy1 hy2 => .inl (nx2.g y hy2 (by omega))
      have gr2 := gr.keep PrO.mono nx2.n fun z z1 z2 => nx2.g z z2 (by omega)
      have kp2 : ∀ z, K0.next ≤ z → z < K6.next → M2.get z = K6.get z := fun z z1 z2 => by rw [nx2.g z (by omega) (by omega), kp1 z z1 z2]
      have hwj : IntKind.i64.wrap ((j : Int) + 1) = ((j + 1 : Nat) : Int) := by rw [wrap64 (by omega) (by omega)]; omega
      by_cases hk0 : (0 : Int) < (k : Int)
      rotate_left
      · simp -implicitDefEqProofs only [g0, g2, g3, g7, g108, g109, hk0, hwj, Bool.false_eq_true, go_sem]
        refine ⟨6 - (j + 1), by omega, j + 1, f, fun q => if q = j then false else S q, rfl, by omega, rfl, cb2, ?_, fa2, ub2, by omega, kp2⟩
        have : selS (fun q => if q = j then false else S q) (j + 1) = selS S j := by
          rw [selS, selS_congr (S' := S) j fun q hq => if_neg (by omega)]; simp
        rw [this]; exact gr2
      have hsl := selS_len S j
      have hpos : c * 4 + 3 < l.length * 4 := by omega
      obtain ⟨M3, e1, e2, e3, e4⟩ := gr2.push PrO.mono (by omega) (a := ((j : Int), (j : Int))) (ys := [.int .i64 (j : Int), .int .i64 (j : Int)]) ⟨rfl, by unfold prOk I64; omega⟩ rfl (bytes := 16) (by omega) (by omega)
      have hub := fun z (hz : Go.Proofs.YtojeldemfccilaaGreatDoor.AA.ub (f (c * 4 + 3)) = some z) => (gr2.ubl hz).1
      have n23 : M2.next ≤ M3.next := by omega
      have ub3 := ub2.hi (H' := M3) n23 fun z hz => e3.keep (by omega) fun e => by have := hub z e; omega
      have fa3 := fa2.keep n23 (e3.keep fa2.1 fun e => by have := hub x e; omega)
      have cb3 := cb2.keep n23 fun y _ hy => (e3.2 y hy).1
      have kp3 : ∀ z, K0.next ≤ z → z < K6.next → M3.get z = K6.get z := fun z z1 z2 => by rw [e3.keep (by omega) (fun e => by have := hub z e; omega), kp2 z z1 z2]
      obtain ⟨M4, e5, e6, fa4, g4⟩ := fa3.store hpos (.slice (some (M2.next + 1, 0)) 2 ((selS S j).length + 1) false)
      have ub4 := ub3.hi (H' := M4) (by omega) fun z hz => g4 z (by omega) (by omega)
      have cb4 := (cb3.upd hc1 (by omega) (Nat.le_refl c) (.slice (some (M2.next + 1, 0)) 2 ((selS S j).length + 1) false)).keep (H' := M4) (by omega) fun y hy1 hy2 => .inl (g4 y (by omega) (by omega))
      have gr4 := e4.keep PrO.mono (H' := M4) (by omega) fun z z1 z2 => g4 z (by omega) (by omega)
      -- what is loaded
      obtain ⟨b21, -, -⟩ := ub2.l
      obtain ⟨b31, -, -⟩ := ub3.l
      have sN := Chg.newRow M2 [.int .i64 (j : Int), .int .i64 (j : Int)]
      obtain ⟨bn1, -, -⟩ := (ub2.hi sN.1 fun z hz => sN.gt (by have := ub2.nx; omega)).l
      have f2 := fa2.ld hpos
      have fn := (fa2.keep sN.1 (sN.gt fa2.1)).ld hpos
      have c0 : (0 : Int) ≤ (c : Int) := by omega
      obtain ⟨ga, gb, gc, hgv⟩ := gr.sh
      rw [hgv] at f2 fn e1
      simp -implicitDefEqProofs only [g0, g2, g3, g7, g108, g109, hk0, hwj, b21, b31, bn1, f2, fn, c0, hlt, e1, e5, go_sem]
      refine ⟨6 - (j + 1), by omega, j + 1, _, fun q => if q = j then true else S q, rfl, by omega, rfl, cb4, ?_, fa4, ub4, by omega, fun z z1 z2 => ?_⟩
      · have : selS (fun q => if q = j then true else S q) (j + 1) = selS S j ++ [((j : Int), (j : Int))] := by
          rw [selS, selS_congr (S' := S) j fun q hq => if_neg (by omega)]; simp
        rw [this, if_pos rfl]; exact gr4
      · rw [g4 z (by omega) (by omega), kp3 z z1 z2]
    rintro ex fr M1 ⟨rfl, g0, g2, g3, g7, f, S, cb, gr, fa, ub1, n1, kp1⟩
    have hwc : IntKind.i64.wrap ((c : Int) + 1) = ((c + 1 : Nat) : Int) := by rw [wrap64 (by omega) (by omega)]; omega
    simp -implicitDefEqProofs only [g0, g2, g3, g7, hwc, go_sem]
    refine ⟨l.length - (c + 1), by omega, c + 1, f, rfl, by omega, by omega, rfl, ⟨cb.a, cb.z, fun q h1 h2 h3 => ?_⟩, fa, ub1, n1, kp1⟩
    by_cases hqc : q = c
    · subst hqc
      exact ⟨S, gr.slE (fun _ _ _ h => h) (by have := selS_len S 6; unfold maxLen; omega), fun y i s n e he => by
        obtain ⟨cs, ⟨-, ⟨s0, h0, -⟩ | ⟨z, h0, hz, -⟩⟩, -⟩ := gr
        · rw [he] at h0; cases h0
        · rw [he] at h0; cases h0; exact hz.1⟩
    · exact cb.d q h1 h2 (by omega)
  rintro ex fr L1 ⟨rfl, g0, g2, g3, f, cb, fa, ub1, n1, kp1⟩
  have hbn := ub1.nx
  clear kp6 cb0 hff ub6
  simp -implicitDefEqProofs only [g0, g2, g3, go_sem]
  refine CW.mono (nx_next ub1.tp 5 (by omega)) ?_
  rintro _ L2 ⟨⟨kN, rfl, hkN⟩, nx2, eL2⟩
  have ub2 := ub1.nxx nx2
  have fa2 := fa.keep nx2.n (nx2.g x fa.1 (by omega))
  have kpL0 : ∀ z, H.next + 3 ≤ z → z < L1.next → L2.get z = L1.get z := fun z z1 z2 => nx2.g z z2 (by omega)
  have hwN : IntKind.i64.wrap (1 + (kN : Int)) = ((kN + 1 : Nat) : Int) := by rw [wrap64 (by omega) (by omega)]; omega
  obtain ⟨N, hN⟩ : ∃ N, N = kN + 1 := ⟨_, rfl⟩
  rw [← hN] at hwN
  have hN1 : 1 ≤ N ∧ N ≤ 5 := by omega
  simp -implicitDefEqProofs only [g0, g2, g3, hwN, go_sem]
  refine WP_mono (Q := fun ex fr H' => ex = .exit 8 ∧ fr.get 2 = some (.ptr (some (H.next, 0))) ∧ fr.get 3 = some (.ptr (some (H.next + 2, 0))) ∧ ∃ (os : List UObj) (vo : AV), os.length = N ∧ (∀ o, o ∈ os → objOk N l o) ∧ GrS L1.next (ObG L1.next) 2 H' os vo ∧ UB H b (.slice (some (x, 0)) 4 l.length vs) (.slice (some (K4.next + 1, 0)) 4 (ms.length + 3) false) vo H' ∧ L1.next ≤ H'.next ∧ ∀ z, H.next + 3 ≤ z → z < L1.next → H'.get z = L1.get z) ?_ (WP_loop (fun n fr H' => fr.get 0 = some (.ptr (some (b, 0))) ∧ fr.get 2 = some (.ptr (some (H.next, 0))) ∧ fr.get 3 = some (.ptr (some (H.next + 2, 0))) ∧ fr.get 9 = some (.int .i64 (N : Int)) ∧ ∃ (i : Nat) (os : List UObj) (vo : AV), n = N - i ∧ i ≤ N ∧ fr.get 10 = some (.int .i64 (i : Int)) ∧ os.length = i ∧ (∀ o, o ∈ os → objOk N l o) ∧ GrS L1.next (ObG L1.next) 2 H' os vo ∧ UB H b (.slice (some (x, 0)) 4 l.length vs) (.slice (some (K4.next + 1, 0)) 4 (ms.length + 3) false) vo H' ∧ L1.next ≤ H'.next ∧ ∀ z, H.next + 3 ≤ z → z < L1.next → H'.get z = L1.get z) N ?_ ?_)
  rotate_left
  · simp -implicitDefEqProofs only [g0, g2, g3, go_sem]
    exact ⟨0, [], _, rfl, by omega, rfl, rfl, by simp, GrS.nil, ub2, nx2.n, kpL0⟩
  · rintro n fr M1 ⟨g0, g2, g3, g9, i, os, vo, hn, hi, g10, hos, hoo, go, ub1, n1', kpL⟩
    by_cases hiN : (i : Int) < (N : Int)
    rotate_left
    · obtain rfl : i = N := by omega
      simp -implicitDefEqProofs only [g0, g2, g3, g9, g10, hiN, Bool.false_eq_true, go_sem]
      exact ⟨os, vo, hos, hoo, go, ub1, n1', kpL⟩
    obtain ⟨b11, -, -⟩ := ub1.l
    have hws : IntKind.i64.wrap ((l.length : Int) - 2) = (l.length : Int) - 2 := wrap64 (by omega) (by omega)
    simp -implicitDefEqProofs only [g0, g2, g3, g9, g10, hiN, b11, hws, go_sem]
    refine CW.mono (nx_next ub1.tp _ (by omega)) ?_
    rintro _ M2 ⟨⟨kc, rfl, hkc⟩, nxc, -⟩
    have hwc : IntKind.i64.wrap (2 + (kc : Int)) = ((kc + 2 : Nat) : Int) := by rw [wrap64 (by omega) (by omega)]; omega
    have ub2 := ub1.nxx nxc
    have n12 := nxc.n
    have kp2 : ∀ z, H.next + 3 ≤ z → z < M1.next → M2.get z = M1.get z := fun z z1 z2 => nxc.g z z2 (by omega)
    have go2 := go.keep ObG.mono nxc.n fun z z1 z2 => kp2 z (by omega) z2
    obtain ⟨M3, e3, n3, s3, a3⟩ := store_own M2 [.int .i64 0, .slice none 1 0 true] [.int .i64 ((kc + 2 : Nat) : Int), .slice none 1 0 true] rfl
    have ub3 := ub2.hi s3.1 fun z hz => s3.gt (by have := ub2.nx; omega)
    obtain ⟨b31, -, -⟩ := ub3.l
    have l30 := a3.rd.one (j := 0) rfl
    rw [Nat.zero_add] at l30
    have hkl : kc + 2 < l.length := by omega
    have fa3 := fa.keep (H' := M3) (by omega) (by rw [s3.gt (by have := fa.1; omega), kp2 x (by omega) (by have := fa.1; omega), kpL x (by omega) fa.1])
    have f3 := fa3.ld (i := (kc + 2) * 4 + 2) (by omega)
    rw [(cb.a (kc + 2) hkl).2.2] at f3
    simp only [iv] at f3
    have hfl := hok.fields (kc + 2) (by omega) hkl
    have hck : clAt l ((kc + 2 : Nat) : Int) = l[kc + 2] := clAt_nat hkl
    have hk0 : (0 : Int) ≤ ((kc + 2 : Nat) : Int) := by omega
    have hkl' : ((kc + 2 : Nat) : Int) < (l.length : Int) := by omega
    simp -implicitDefEqProofs only [hwc, e3, b31, l30, f3, hk0, hkl', g0, g2, g3, g9, g10, go_sem]
    have hy3 : L1.next ≤ M2.next := by omega
    have go3 := go2.keep ObG.mono s3.1 fun z z1 z2 => s3.gt z2
    have kpy3 : ∀ z, H.next + 3 ≤ z → z < M2.next → M3.get z = M2.get z := fun z _ z2 => s3.gt z2
    have hyb : M2.next ≠ b := by omega
    generalize hy : M2.next = y at *
    obtain ⟨tot, htot⟩ : ∃ t : Nat, (t : Int) = l[kc + 2].fields := ⟨l[kc + 2].fields.toNat, by rw [hck] at hfl; omega⟩
    rw [← htot] at f3
    rw [hck] at hfl
    have hcl0 : ((kc + 2 : Nat) : Int) = 1 ∧ tot ≤ 8 ∨ 2 ≤ ((kc + 2 : Nat) : Int) ∧ ((kc + 2 : Nat) : Int) < l.length ∧ (tot : Int) = (clAt l ((kc + 2 : Nat) : Int)).fields := .inr ⟨by omega, by omega, by rw [hck, htot]⟩
    have htot9 : tot ≤ 20 := by omega
    by_cases hi0 : (0 : Int) < (i : Int)
    rotate_left
    have aX := a3
    have ubX := ub3
    have kpX := kpy3
    have clX := hcl0
    have totX := htot9
    obtain ⟨tX, rfl⟩ : ∃ t : Nat, t = tot := ⟨_, rfl⟩
    simp -implicitDefEqProofs only [hy, hwc, e3, b31, l30, f3, hk0, hkl', g0, g2, g3, g9, g10, hi0, Bool.false_eq_true, go_sem]
    rotate_left
    simp -implicitDefEqProofs only [hy, hwc, e3, b31, l30, f3, hk0, hkl', g0, g2, g3, g9, g10, hi0, go_sem]
    refine CW.mono (nx_next ub3.tp 3 (by omega)) ?_
    rintro _ M4 ⟨⟨k3, rfl, hk3⟩, nx4, -⟩
    have n34 := nx4.n
    have a4 := a3.nx nx4 hyb
    have ub4 := ub3.nxx nx4
    have kpy4 : ∀ z, H.next + 3 ≤ z → z < y → M4.get z = M2.get z := fun z z1 z2 => by rw [nx4.g z (by omega) (by omega), kpy3 z z1 z2]
    by_cases hk30 : (k3 : Int) = 0
    rotate_left
    have hk3' : ((k3 : Int) == 0) = false := by simpa using hk30
    have aX := a4
    have ubX := ub4
    have kpX := kpy4
    have clX := hcl0
    have totX := htot9
    obtain ⟨tX, rfl⟩ : ∃ t : Nat, t = tot := ⟨_, rfl⟩
    simp -implicitDefEqProofs only [hk3', g0, g2, g3, g9, g10, Bool.false_eq_true, go_sem]
    rotate_left 2
    have hk3' : ((k3 : Int) == 0) = true := by simpa using hk30
    simp -implicitDefEqProofs only [hk3', g0, g2, g3, g9, g10, go_sem]
    refine CW.mono (nx_next ub4.tp 9 (by omega)) ?_
    rintro _ M5 ⟨⟨tX, rfl, hk9⟩, nx5, -⟩
    have n45 := nx5.n
    have a5 := a4.nx nx5 hyb
    have ub5 := ub4.nxx nx5
    have kpy5 : ∀ z, H.next + 3 ≤ z → z < y → M5.get z = M2.get z := fun z z1 z2 => by rw [nx5.g z (by omega) (by omega), kpy4 z z1 z2]
    obtain ⟨M6, e6, n6, a6, g6⟩ := a5.store (o := 0) (vs := [.int .i64 1]) (cs' := [.int .i64 1, .slice none 1 0 true]) (by simp) rfl
    have g6' : ∀ z, z ≠ y → M6.get z = M5.get z := fun z hz => g6 z hz (fun h => h)
    have aX := a6
    have ubX := ub5.hi (H' := M6) (by omega) fun z hz => g6' z (by omega)
    have kpX : ∀ z, H.next + 3 ≤ z → z < y → M6.get z = M2.get z := fun z z1 z2 => by rw [g6' z (by omega), kpy5 z z1 z2]
    have clX : (1 : Int) = 1 ∧ tX ≤ 8 ∨ 2 ≤ (1 : Int) ∧ (1 : Int) < l.length ∧ (tX : Int) = (clAt l (1 : Int)).fields := .inl ⟨rfl, by omega⟩
    have totX : tX ≤ 20 := by omega
    simp -implicitDefEqProofs only [e6, g0, g2, g3, g9, g10, go_sem]
    all_goals
      refine WP_mono (Q := fun ex fr H' => ex = .exit 10 ∧ fr.get 0 = some (.ptr (some (b, 0))) ∧ fr.get 2 = some (.ptr (some (H.next, 0))) ∧ fr.get 3 = some (.ptr (some (H.next + 2, 0))) ∧ fr.get 9 = some (.int .i64 (N : Int)) ∧ fr.get 10 = some (.int .i64 (i : Int)) ∧ fr.get 11 = some (.ptr (some (y, 0))) ∧ ∃ (cls : Int) (xs : List Pr2) (vf : AV), (cls = 1 ∧ xs.length ≤ 8 ∨ 2 ≤ cls ∧ cls < l.length ∧ (xs.length : Int) = (clAt l cls).fields) ∧ xs.length ≤ 20 ∧ Arr H' y [.int .i64 cls, vf] (fun _ => False) ∧ GrS (y + 1) PrO 2 H' xs vf ∧ (∀ v, v ∈ xs → vOk N v) ∧ UB H b (.slice (some (x, 0)) 4 l.length vs) (.slice (some (K4.next + 1, 0)) 4 (ms.length + 3) false) vo H' ∧ ∀ z, H.next + 3 ≤ z → z < y → H'.get z = M2.get z) ?_ (WP_loop (fun n fr H' => fr.get 0 = some (.ptr (some (b, 0))) ∧ fr.get 2 = some (.ptr (some (H.next, 0))) ∧ fr.get 3 = some (.ptr (some (H.next + 2, 0))) ∧ fr.get 9 = some (.int .i64 (N : Int)) ∧ fr.get 10 = some (.int .i64 (i : Int)) ∧ fr.get 11 = some (.ptr (some (y, 0))) ∧ fr.get 12 = some (.int .i64 (n : Int)) ∧ ∃ (cls : Int) (xs : List Pr2) (vf : AV), (cls = 1 ∧ xs.length + n ≤ 8 ∨ 2 ≤ cls ∧ cls < l.length ∧ ((xs.length + n : Nat) : Int) = (clAt l cls).fields) ∧ xs.length + n ≤ 20 ∧ Arr H' y [.int .i64 cls, vf] (fun _ => False) ∧ GrS (y + 1) PrO 2 H' xs vf ∧ (∀ v, v ∈ xs → vOk N v) ∧ UB H b (.slice (some (x, 0)) 4 l.length vs) (.slice (some (K4.next + 1, 0)) 4 (ms.length + 3) false) vo H' ∧ ∀ z, H.next + 3 ≤ z → z < y → H'.get z = M2.get z) tX ?_ ?_)
      rotate_left
      · simp -implicitDefEqProofs only [g0, g2, g3, g9, g10, go_sem]
        first
          | exact ⟨_, [], _, by simpa using clX, by simpa using totX, aX, GrS.nil, by simp, ubX, kpX⟩
          | exact ⟨by rw [← htot], _, [], _, by simpa using clX, by simpa using totX, aX, GrS.nil, by simp, ubX, kpX⟩
      · clear aX kpX clX totX ubX
        rintro n fr P1 ⟨g0, g2, g3, g9, g10, g11, g12, cls, xs, vf, hcx, hx20, a1, gr, hvo, ub1, kp1⟩
        by_cases hn0 : (0 : Int) < (n : Int)
        rotate_left
        · obtain rfl : n = 0 := by omega
          simp -implicitDefEqProofs only [g0, g2, g3, g9, g10, g11, g12, hn0, Bool.false_eq_true, go_sem]
          exact ⟨cls, xs, vf, by simpa using hcx, by omega, a1, gr, hvo, ub1, kp1⟩
        have l1 := a1.rd.one (j := 1) rfl
        rw [Nat.zero_add] at l1
        simp -implicitDefEqProofs only [g0, g2, g3, g9, g10, g11, g12, hn0, l1, go_sem]
        refine CW.mono (nx_next ub1.tp 900 (by omega)) ?_
        rintro _ P2 ⟨⟨k1, rfl, hk1⟩, nxa, -⟩
        have ub2 := ub1.nxx nxa
        have a2 := a1.nx nxa hyb
        have l2 := a2.rd.one (j := 1) rfl
        rw [Nat.zero_add] at l2
        have hw1 : IntKind.i64.wrap ((k1 : Int) - 400) = (k1 : Int) - 400 := wrap64 (by omega) (by omega)
        simp -implicitDefEqProofs only [g0, g9, g11, hw1, go_sem]
        refine CW.mono (nx_next ub2.tp (N : Int) (by omega)) ?_
        rintro _ P3 ⟨⟨k2, rfl, hk2⟩, nxb, -⟩
        have ub3 := ub2.nxx nxb
        have a3 := a2.nx nxb hyb
        have l3 := a3.rd.one (j := 1) rfl
        rw [Nat.zero_add] at l3
        simp -implicitDefEqProofs only [g0, g9, g11, go_sem]
        have hT : ∃ T : List AV, T = [.int .i64 0, .int .i64 0, .int .i64 1, .int .i64 0, .int .i64 2, .int .i64 0, .int .i64 3, .int .i64 ((k1 : Int) - 400), .int .i64 4, .int .i64 (k2 : Int)] := ⟨_, rfl⟩
        obtain ⟨T, hT⟩ := hT
        rw [← hT]
        have sT := Chg.newRow P3 T
        have rT := Rd.newRow P3 T
        have ub3n := ub3.hi sT.1 fun z hz => sT.gt (by have := ub3.nx; omega)
        have a3n := a3.sm sT
        have l3n := a3n.rd.one (j := 1) rfl
        rw [Nat.zero_add] at l3n
        have hnT : (P3.newRow T).next = P3.next + 1 := rfl
        have hbn3 := ub3.nx
        refine CW.mono (nx_next ub3n.tp 5 (by omega)) ?_
        rintro _ P4 ⟨⟨k5, rfl, hk5⟩, nxc, -⟩
        have ub4 := ub3n.nxx nxc
        have a4 := a3n.nx nxc hyb
        have l4 := a4.rd.one (j := 1) rfl
        rw [Nat.zero_add] at l4
        have rT4 := rT.keep nxc.n (nxc.g P3.next (by omega) (by omega))
        rw [hT] at rT4
        have na := nxa.n
        have nb := nxb.n
        have nc := nxc.n
        have hyP : y < P1.next := a1.1
        have gr4 := gr.keep PrO.mono (H' := P4) (by omega) fun z z1 z2 => by rw [nxc.g z (by omega) (by omega), sT.gt (by omega), nxb.g z (by omega) (by omega), nxa.g z z2 (by omega)]
        have kp4 : ∀ z, H.next + 3 ≤ z → z < y → P4.get z = M2.get z := fun z z1 z2 => by rw [nxc.g z (by omega) (by omega), sT.gt (by omega), nxb.g z (by omega) (by omega), nxa.g z (by omega) (by omega), kp1 z z1 z2]
        have hwn : IntKind.i64.wrap ((n : Int) - 1) = ((n - 1 : Nat) : Int) := by rw [wrap64 (by omega) (by omega)]; omega
        have hy0 : H.next + 3 ≤ y := by omega
        have step : ∀ p : Pr2, vOk N p → prOk p → ∃ P5 P6, appendF (P4.newRow [.int .i64 p.1, .int .i64 p.2]) 2 16 false vf (.slice (some (P4.next, 0)) 2 1 true) = some (.slice (some (P4.next + 1, 0)) 2 (xs.length + 1) false, P5) ∧ storeA P5 y 1 [.slice (some (P4.next + 1, 0)) 2 (xs.length + 1) false] = some P6 ∧ loadA (P4.newRow [.int .i64 p.1, .int .i64 p.2]) y 1 1 = some [vf] ∧ ∃ (cls : Int) (xs' : List Pr2) (vf' : AV), (cls = 1 ∧ xs'.length + (n - 1) ≤ 8 ∨ 2 ≤ cls ∧ cls < l.length ∧ ((xs'.length + (n - 1) : Nat) : Int) = (clAt l cls).fields) ∧ xs'.length + (n - 1) ≤ 20 ∧ Arr P6 y [.int .i64 cls, vf'] (fun _ => False) ∧ GrS (y + 1) PrO 2 P6 xs' vf' ∧ (∀ v, v ∈ xs' → vOk N v) ∧ UB H b (.slice (some (x, 0)) 4 l.length vs) (.slice (some (K4.next + 1, 0)) 4 (ms.length + 3) false) vo P6 ∧ ∀ z, H.next + 3 ≤ z → z < y → P6.get z = M2.get z := fun p hp hp2 => by
          obtain ⟨P5, e1, e2, e3, e4⟩ := gr4.push PrO.mono (by omega) (a := p) (ys := [.int .i64 p.1, .int .i64 p.2]) ⟨rfl, hp2⟩ rfl (bytes := 16) (by omega) (by omega)
          have hub := fun z (hz : Go.Proofs.YtojeldemfccilaaGreatDoor.AA.ub vf = some z) => (gr4.ubl hz).1
          have ub5 := ub4.hi (H' := P5) (by omega) fun z hz => e3.keep (by have := ub4.nx; omega) fun e => by have := hub z e; omega
          have a5 := a4.keep (H' := P5) (by omega) (e3.keep a4.1 fun e => by have := hub y e; omega)
          obtain ⟨P6, e5, n6, a6, g6⟩ := a5.store (o := 1) (vs := [.slice (some (P4.next + 1, 0)) 2 (xs.length + 1) false]) (cs' := [.int .i64 cls, .slice (some (P4.next + 1, 0)) 2 (xs.length + 1) false]) (by simp) rfl
          have g6' : ∀ z, z ≠ y → P6.get z = P5.get z := fun z hz => g6 z hz (fun h => h)
          have sN := Chg.newRow P4 [.int .i64 p.1, .int .i64 p.2]
          have ln := (a4.sm sN).rd.one (j := 1) rfl
          rw [Nat.zero_add] at ln
          have hxl : (xs ++ [p]).length = xs.length + 1 := by simp
          refine ⟨P5, P6, e1, e5, ln, cls, xs ++ [p], _, ?_, by omega, a6, e4.keep PrO.mono (by omega) fun z z1 z2 => g6' z (by omega), ?_, ub5.hi (by omega) fun z hz => g6' z (by omega), fun z z1 z2 => ?_⟩
          · rw [hxl, show xs.length + 1 + (n - 1) = xs.length + n by omega]; exact hcx
          · intro v hv
            rcases List.mem_append.1 hv with hv | hv
            · exact hvo v hv
            · obtain rfl : v = p := by simpa using hv
              exact hp
          · rw [g6' z (by omega), e3.keep (by omega) (fun e => by have := hub z e; omega), kp4 z z1 z2]
        obtain ⟨q, hq⟩ : ∃ q : Int, (k5 : Int) = q := ⟨_, rfl⟩
        rw [hq]
        have r0 : loadA P4 P3.next 0 2 = some [.int .i64 0, .int .i64 0] := ((rT4.part 0 2).resolve_right (by simp)).load rfl
        have r1 : loadA P4 P3.next 2 2 = some [.int .i64 1, .int .i64 0] := ((rT4.part 2 2).resolve_right (by simp)).load rfl
        have r2 : loadA P4 P3.next 4 2 = some [.int .i64 2, .int .i64 0] := ((rT4.part 4 2).resolve_right (by simp)).load rfl
        have r3 : loadA P4 P3.next 6 2 = some [.int .i64 3, .int .i64 ((k1 : Int) - 400)] := ((rT4.part 6 2).resolve_right (by simp)).load rfl
        have r4 : loadA P4 P3.next 8 2 = some [.int .i64 4, .int .i64 (k2 : Int)] := ((rT4.part 8 2).resolve_right (by simp)).load rfl
        obtain ⟨ga, gb, gc, rfl⟩ := gr.sh
        rcases (by omega : q = 0 ∨ q = 1 ∨ q = 2 ∨ q = 3 ∨ q = 4) with rfl | rfl | rfl | rfl | rfl
        · obtain ⟨P5, P6, p1, p2, p3, p4⟩ := step (0, 0) (.inl ⟨.inl rfl, rfl⟩) (by unfold prOk I64; dsimp only; omega)
          simp -implicitDefEqProofs only [l1, l2, l3, l3n, l4, r0, p1, p2, p3, g0, g2, g3, g9, g10, g11, g12, hwn, go_sem]
          exact ⟨n - 1, by omega, rfl, p4⟩
        · obtain ⟨P5, P6, p1, p2, p3, p4⟩ := step (1, 0) (.inl ⟨.inr (.inl rfl), rfl⟩) (by unfold prOk I64; dsimp only; omega)
          simp -implicitDefEqProofs only [l1, l2, l3, l3n, l4, r1, p1, p2, p3, g0, g2, g3, g9, g10, g11, g12, hwn, go_sem]
          exact ⟨n - 1, by omega, rfl, p4⟩
        · obtain ⟨P5, P6, p1, p2, p3, p4⟩ := step (2, 0) (.inl ⟨.inr (.inr rfl), rfl⟩) (by unfold prOk I64; dsimp only; omega)
          simp -implicitDefEqProofs only [l1, l2, l3, l3n, l4, r2, p1, p2, p3, g0, g2, g3, g9, g10, g11, g12, hwn, go_sem]
          exact ⟨n - 1, by omega, rfl, p4⟩
        · obtain ⟨P5, P6, p1, p2, p3, p4⟩ := step (3, (k1 : Int) - 400) (.inr (.inl ⟨rfl, by dsimp only; omega, by dsimp only; omega⟩)) (by unfold prOk I64; dsimp only; omega)
          simp -implicitDefEqProofs only [l1, l2, l3, l3n, l4, r3, p1, p2, p3, g0, g2, g3, g9, g10, g11, g12, hwn, go_sem]
          exact ⟨n - 1, by omega, rfl, p4⟩
        · obtain ⟨P5, P6, p1, p2, p3, p4⟩ := step (4, (k2 : Int)) (.inr (.inr ⟨rfl, by dsimp only; omega, by dsimp only; omega⟩)) (by unfold prOk I64; dsimp only; omega)
          simp -implicitDefEqProofs only [l1, l2, l3, l3n, l4, r4, p1, p2, p3, g0, g2, g3, g9, g10, g11, g12, hwn, go_sem]
          exact ⟨n - 1, by omega, rfl, p4⟩
      rintro ex fr P1 ⟨rfl, g0, g2, g3, g9, g10, g11, cls, xs, vf, hcx, hx20, a1, gr, hvo, ub1, kp1⟩
      have hyP : y < P1.next := a1.1
      have goP := go2.keep ObG.mono (H' := P1) (by omega) fun z z1 z2 => kp1 z (by omega) (by omega)
      obtain ⟨-, -, b13⟩ := ub1.l
      have l2 := a1.rd.load (n := 2) rfl
      have hub := fun z (hz : Go.Proofs.YtojeldemfccilaaGreatDoor.AA.ub vo = some z) => go2.ubl hz
      have hel : ObG L1.next (Go.Proofs.YtojeldemfccilaaGreatDoor.AA.ub vo) P1 ⟨cls, xs⟩ [.int .i64 cls, vf] := ⟨vf, rfl, by show I64 cls; unfold I64; omega, gr.low (by omega), fun z hz e => by have := (gr.ubl hz).1; have := (hub z e).2; omega, by show xs.length ≤ maxLen; unfold maxLen; omega⟩
      obtain ⟨P2, e1, e2, e3, e4⟩ := goP.push ObG.mono (by omega) hel rfl (bytes := 32) (by omega) (by omega)
      have ub2 := ub1.hi (H' := P2) (by omega) fun z hz => e3.keep (by have := ub1.nx; omega) fun e => by have := (hub z e).1; omega
      obtain ⟨P3, q1, q2, ubZ, q4⟩ := ub2.put 3 (.slice (some (P1.next + 1, 0)) 2 (os.length + 1) false) _ _ (.slice (some (P1.next + 1, 0)) 2 (os.length + 1) false) (by omega) rfl
      have goZ := e4.keep ObG.mono (H' := P3) (by omega) fun z z1 z2 => q4 z (by omega)
      have hwi : IntKind.i64.wrap ((i : Int) + 1) = ((i + 1 : Nat) : Int) := by rw [wrap64 (by omega) (by omega)]; omega
      obtain ⟨oa, ob, oc, rfl⟩ := go.sh
      obtain ⟨fa', fb, fc, rfl⟩ := gr.sh
      simp -implicitDefEqProofs only [g0, g2, g3, g9, g10, g11, b13, l2, e1, q1, hwi, go_sem]
      refine ⟨N - (i + 1), by omega, i + 1, os ++ [⟨cls, xs⟩], _, rfl, by omega, rfl, by rw [List.length_append, hos]; rfl, fun o ho => ?_, goZ, ubZ, by omega, fun z z1 z2 => ?_⟩
      · rcases List.mem_append.1 ho with ho | ho
        · exact hoo o ho
        · obtain rfl : o = ⟨cls, xs⟩ := by simpa using ho
          exact ⟨hcx, hvo⟩
      · rw [q4 z (by omega), e3.keep (by omega) (fun e => by have := (hub z e).1; omega), kp1 z z1 (by omega), kp2 z z1 (by omega), kpL z z1 z2]
  rintro ex fr M1 ⟨rfl, g2, g3, os, vo, hos, hoo, go, ub1, n1', kpL⟩
  have l5 := ub1.a3.rd.load (n := 5) rfl
  obtain ⟨M2, e1, e2, a2, g2'⟩ := ub1.a2.store (o := 0) (vs := [.slice (some (H.next + 1, 0)) 1 6 true, .slice (some (x, 0)) 4 l.length vs, .slice (some (K4.next + 1, 0)) 4 (ms.length + 3) false, vo, .int .i64 6]) (cs' := [.slice (some (H.next + 1, 0)) 1 6 true, .slice (some (x, 0)) 4 l.length vs, .slice (some (K4.next + 1, 0)) 4 (ms.length + 3) false, vo, .int .i64 6]) (by simp) rfl
  have l6 := a2.rd.load (n := 5) rfl
  have gM : ∀ z, z ≠ H.next → M2.get z = M1.get z := fun z hz => g2' z hz (fun h => h)
  simp -implicitDefEqProofs only [g2, g3, l5, e1, l6, go_sem]
  -- the classes with their binds
  have hnL := n1
  have n2' : M1.next ≤ M2.next := by omega
  have hS : ∀ q, ∃ S : Nat → Bool, q < l.length → 1 ≤ q → SlE PrE 2 L1 (selS S 6) [f (q * 4 + 3)] ∧ ∀ y i s n e, f (q * 4 + 3) = .slice (some (y, i)) s n e → K6.next ≤ y := fun q => by
    by_cases hq : q < l.length ∧ 1 ≤ q
    · obtain ⟨S, hS⟩ := cb.d q hq.1 hq.2 hq.1
      exact ⟨S, fun _ _ => hS⟩
    · exact ⟨fun _ => false, fun h1 h2 => absurd ⟨h1, h2⟩ hq⟩
  obtain ⟨S, hS⟩ := Classical.axiomOfChoice hS
  have hM12 : ∀ z, H.next + 3 ≤ z → z < L1.next → M2.get z = L1.get z := fun z z1 z2 => by rw [gM z (by omega), kpL z z1 z2]
  have faM := fa.keep (H' := M2) (by omega) (hM12 x (by omega) fa.1)
  let mk : Nat → UClass → UClass := fun q c => ⟨c.name, c.super, c.fields, if q = 0 then [] else selS (S q) 6⟩
  have hcls : SlE ClE 4 M2 (l.mapIdx mk) [.slice (some (x, 0)) 4 l.length vs] := by
    refine ⟨_, _, _, by rw [List.length_mapIdx], .inr rfl, by rw [List.length_mapIdx, hlen]; unfold maxLen; omega, fun _ => ⟨x, 0, _, rfl, faM.rd, by simp, fun q hq => ?_⟩⟩
    have hq' : q < l.length := by simpa using hq
    rw [map_range4 f (by omega), List.getElem_mapIdx]
    obtain ⟨c1, c2, c3⟩ := cb.a q hq'
    obtain ⟨k1, k2, k3⟩ := hok.all hi3 l[q] (List.getElem_mem hq')
    refine ⟨f (q * 4 + 3), by rw [c1, c2, c3], k1, k2, k3, ?_⟩
    show SlE PrE 2 M2 (if q = 0 then [] else selS (S q) 6) [f (q * 4 + 3)]
    by_cases hq0 : q = 0
    · rw [if_pos hq0, cb.z q hq' (.inl hq0)]
      exact ⟨none, 1, true, rfl, .inl rfl, Nat.zero_le _, fun h => absurd rfl h⟩
    · rw [if_neg hq0]
      obtain ⟨h1, h2⟩ := hS q hq' (by omega)
      exact h1.sld (by omega) fun y i s n e he hy => .inl (hM12 y (by have := h2 y i s n e he; omega) hy)
  have hmlen : (ms ++ [m1, m2, m3]).length = ms.length + 3 := by simp
  have hm6 := hms.1
  have gmM := gm6.keep MeG.mono (H' := M2) (by omega) fun z z1 z2 => by rw [hM12 z (by omega) (by omega), kp1 z z1 z2]
  have goM := go.keep ObG.mono (H' := M2) (by omega) fun z z1 z2 => gM z (by omega)
  have anM : SlE StE 1 M2 nmsU [.slice (some (H.next + 1, 0)) 1 6 true] := by
    refine ⟨_, _, _, rfl, .inr rfl, by decide, fun _ => ⟨_, 0, _, rfl, ub1.an.keep (by omega) (gM _ (by omega)), rfl, fun j hj => ?_⟩⟩
    have hst : ∀ s, s ∈ nmsU → stOk s := by
      intro s hs
      simp only [nmsU, List.mem_cons, List.not_mem_nil, or_false] at hs
      rcases hs with rfl | rfl | rfl | rfl | rfl | rfl <;> exact ⟨by simp, by simp⟩
    refine ⟨?_, hst _ (List.getElem_mem hj)⟩
    rw [Nat.mul_one]
    have hj' : j < 6 := hj
    rcases (by omega : j = 0 ∨ j = 1 ∨ j = 2 ∨ j = 3 ∨ j = 4 ∨ j = 5) with rfl | rfl | rfl | rfl | rfl | rfl <;> rfl
  obtain ⟨oa, ob, oc, hvo⟩ := go.sh
  refine ⟨⟨nmsU, l.mapIdx mk, ms ++ [m1, m2, m3], os, 6⟩, _, rfl, ⟨_, _, _, _, rfl, ?_, anM, hcls, gmM.slE (fun _ _ _ h => h.me) ?_, goM.slE (fun u a l h => ObG.ob u a l h) ?_⟩, ⟨rfl, rfl, l, i, S, hi1, hi3, hok, ?_, ?_, ?_, ?_, ?_, ?_, ?_⟩, ?_, ?_⟩
  · show I64 6; unfold I64; omega
  · rw [hmlen, hm6]; unfold maxLen; omega
  · rw [hos]; unfold maxLen; omega
  · exact List.length_mapIdx
  · intro q hq hq'
    exact List.getElem_mapIdx
  · show (ms ++ [m1, m2, m3]).length = 9
    rw [hmlen, hm6]
  · intro q hq
    show methOk l.length (if q = 8 then 1 else argsK q) (ms ++ [m1, m2, m3])[q]
    have hq' : q < ms.length + 3 := by rw [← hmlen]; exact hq
    by_cases h6 : q < ms.length
    · rw [List.getElem_append_left h6, if_neg (by omega)]
      exact hms.2 q h6
    · rw [List.getElem_append_right (by omega)]
      rcases (by omega : q = 6 ∨ q = 7 ∨ q = 8) with rfl | rfl | rfl
      · simp only [hm6, Nat.sub_self, List.getElem_cons_zero, Nat.reduceEqDiff, ↓reduceIte]
        exact ho1
      · simp only [hm6, Nat.reduceSub, List.getElem_cons_succ, List.getElem_cons_zero, Nat.reduceEqDiff, ↓reduceIte]
        exact ho2
      · simp only [hm6, Nat.reduceSub, List.getElem_cons_succ, List.getElem_cons_zero, ↓reduceIte]
        exact ho3
  · show 1 ≤ os.length; omega
  · show os.length ≤ 5; omega
  · intro o ho
    show objOk os.length l o
    rw [hos]; exact hoo o ho
  · omega
  · intro z hz hzb
    rw [gM z (by omega), ub1.kp z hz hzb]
end Go.Proofs.YtojeldemfccilaaGreatDoor.AA
