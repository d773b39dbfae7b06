/- What is built is right; the tape, same; small units. -/
import Derived.Test.YtbbjlbdmjikhbaaGreatDoorKUniE
set_option linter.unusedSimpArgs false
set_option linter.unusedVariables false
namespace Go.Proofs.YtbbjlbdmjikhbaaGreatDoor.AA
open Go Go.RowKit
set_option maxRecDepth 100000
set_option maxHeartbeats 4000000
structure ClF (l : List UClass) : Prop where
 n3 : 3 ≤ l.length
 n5 : l.length ≤ 5
 c0 : clAt l 0 = ⟨[66, 108, 111, 99, 107], -1, 4, []⟩
 c1 : clAt l 1 = ⟨[65, 114, 114, 97, 121], -1, 0, []⟩
 c : ∀ j : Nat, 2 ≤ j → j < l.length → (clAt l j).name = [67, 48 + (j - 2)] ∧ 0 ≤ (clAt l j).fields ∧ (clAt l j).fields ≤ 3 + 2 * ((j : Int) - 2) ∧ ((clAt l j).super = -1 ∨ (2 ≤ (clAt l j).super ∧ (clAt l j).super < j ∧ (clAt l (clAt l j).super).fields ≤ (clAt l j).fields))
theorem clsOk.clf : ∀ {n : Nat} {l : List UClass}, clsOk l n → clAt l 0 = ⟨[66, 108, 111, 99, 107], -1, 4, []⟩ ∧ clAt l 1 = ⟨[65, 114, 114, 97, 121], -1, 0, []⟩ ∧ ∀ j : Nat, 2 ≤ j → j < l.length → (clAt l j).name = [67, 48 + (j - 2)] ∧ 0 ≤ (clAt l j).fields ∧ (clAt l j).fields ≤ 3 + 2 * ((j : Int) - 2) ∧ ((clAt l j).super = -1 ∨ (2 ≤ (clAt l j).super ∧ (clAt l j).super < j ∧ (clAt l (clAt l j).super).fields ≤ (clAt l j).fields))
 | 0, l, h => by
  rw [show l = cls0 from h]
  refine ⟨rfl, rfl, fun j h2 hj => ?_⟩
  simp [cls0] at hj; omega
 | n + 1, l, ⟨l', c, e, h, hs⟩ => by
  have hlen := h.len
  obtain ⟨h0, h1, hc⟩ := h.clf
  subst e
  refine ⟨by rw [clAt_app (by omega) (by omega)]; exact h0, by rw [clAt_app (by omega) (by omega)]; exact h1, fun j h2 hj => ?_⟩
  by_cases hlt : j < l'.length
  ·rw [clAt_app (l := l') (c := c) (j := (j : Int)) (by omega) (by omega)]
   obtain ⟨k1, k2, k3, k4⟩ := hc j h2 hlt
   refine ⟨k1, k2, k3, ?_⟩
   rcases k4 with k4 | ⟨k4, k5, k6⟩
   ·exact .inl k4
   ·exact .inr ⟨k4, k5, by rw [clAt_app (by omega) (by omega)]; exact k6⟩
  ·have hj' : j = l'.length := by simp at hj; omega
   have e1 : clAt (l' ++ [c]) (j : Int) = c := by
    rw [hj', clAt, Int.toNat_natCast, List.getD_eq_getElem?_getD, List.getElem?_append_right (Nat.le_refl _)]; simp
   rw [e1]
   obtain ⟨s1, s2, s3, -, s5⟩ := hs
   refine ⟨by rw [s1, show n = j - 2 by omega], s2, by omega, ?_⟩
   rcases s5 with s5 | ⟨s5, s6, s7⟩
   ·exact .inl s5
   ·exact .inr ⟨s5, by omega, by rw [clAt_app (by omega) (by omega)]; exact s7⟩
theorem chain_le {l : List UClass} (h : ∀ k : Nat, k < l.length → (clAt l k).super < k) : ∀ (n : Nat) (i : Int), (chainN n l i).length ≤ (i + 1).toNat
 | 0, i => by simp [chainN]
 | n + 1, i => by
  unfold chainN
  split
  ·next hi =>
   obtain ⟨k, rfl⟩ : ∃ k : Nat, i = (k : Int) := ⟨i.toNat, by omega⟩
   have h1 := h k (by omega)
   have h2 := chain_le h n (clAt l (k : Int)).super
   simp only [List.length_cons]; omega
  ·simp
structure TC (u : List UClass) (l : List UClass) (S : Nat → Nat → Bool) : Prop where
 f : ClF l
 n : u.length = l.length
 e : ∀ j : Nat, j < l.length → clAt u j = ⟨(clAt l j).name, (clAt l j).super, (clAt l j).fields, if j = 0 then [] else selS (S j) 6⟩
def sel6 (b0 b1 b2 b3 b4 b5 : Bool) : List Pr2 := (((((([] ++ if b0 then [(0, 0)] else []) ++ if b1 then [(1, 1)] else []) ++ if b2 then [(2, 2)] else []) ++ if b3 then [(3, 3)] else []) ++ if b4 then [(4, 4)] else []) ++ if b5 then [(5, 5)] else [])
theorem selS_6 (S : Nat → Bool) : selS S 6 = sel6 (S 0) (S 1) (S 2) (S 3) (S 4) (S 5) := rfl
theorem sel6_b : ∀ b0 b1 b2 b3 b4 b5 : Bool, bindsP (sel6 b0 b1 b2 b3 b4 b5) 6 9 = true := by decide +kernel
theorem sel6_d : ∀ b0 b1 b2 b3 b4 b5 : Bool, dictP (sel6 b0 b1 b2 b3 b4 b5) = true := by decide +kernel
theorem selS_mem {S : Nat → Bool} : ∀ {n : Nat} {b : Pr2}, b ∈ selS S n → ∃ j : Nat, j < n ∧ b = ((j : Int), (j : Int))
 | 0, b, h => by simp [selS] at h
 | n + 1, b, h => by
  rw [selS] at h
  rcases List.mem_append.1 h with h | h
  ·obtain ⟨j, h1, h2⟩ := selS_mem h
   exact ⟨j, by omega, h2⟩
  ·split at h
   ·exact ⟨n, by omega, by simpa using h⟩
   ·simp at h
theorem TC.sup {u l : List UClass} {S : Nat → Nat → Bool} (h : TC u l S) : ∀ k : Nat, k < u.length → (clAt u k).super < k := fun k hk => by
 have hk' : k < l.length := by rw [← h.n]; exact hk
 rw [h.e k hk']
 show (clAt l k).super < k
 rcases (by omega : k = 0 ∨ k = 1 ∨ 2 ≤ k) with rfl | rfl | h2
 ·rw [show ((0 : Nat) : Int) = 0 from rfl, h.f.c0]; decide
 ·rw [show ((1 : Nat) : Int) = 1 from rfl, h.f.c1]; decide
 ·obtain ⟨-, -, -, h4⟩ := h.f.c k h2 hk'
  omega
theorem TC.name {u l : List UClass} {S : Nat → Nat → Bool} (h : TC u l S) {k : Nat} (hk : k < l.length) : (clAt u k).name = if k = 0 then [66, 108, 111, 99, 107] else if k = 1 then [65, 114, 114, 97, 121] else [67, 48 + (k - 2)] := by
 rw [h.e k hk]
 show (clAt l k).name = _
 rcases (by omega : k = 0 ∨ k = 1 ∨ 2 ≤ k) with rfl | rfl | h2
 ·rw [show ((0 : Nat) : Int) = 0 from rfl, h.f.c0]; rfl
 ·rw [show ((1 : Nat) : Int) = 1 from rfl, h.f.c1]; rfl
 ·rw [(h.f.c k h2 hk).1, if_neg (by omega), if_neg (by omega)]
theorem TC.superP {u l : List UClass} {S : Nat → Nat → Bool} (h : TC u l S) {k : Nat} (hk : k < l.length) : superP u k = true := by
 have e := h.e k hk
 have hs := h.sup
 unfold Go.Proofs.YtbbjlbdmjikhbaaGreatDoor.AA.superP
 have n5 := h.f.n5
 rcases (by omega : k = 0 ∨ k = 1 ∨ 2 ≤ k) with rfl | rfl | h2
 ·rw [show ((0 : Nat) : Int) = 0 from rfl] at e ⊢
  rw [e, h.f.c0]; rfl
 ·rw [show ((1 : Nat) : Int) = 1 from rfl] at e ⊢
  rw [e, h.f.c1]; rfl
 ·obtain ⟨-, c1, c2, c3⟩ := h.f.c k h2 hk
  rw [e]
  dsimp only
  generalize hsu : (clAt l (k : Int)).super = su at *
  generalize hff : (clAt l (k : Int)).fields = ff at *
  have h1 : 0 ≤ ff ∧ ff ≤ 62 ∧ -1 ≤ su ∧ su < (k : Int) := by omega
  rw [decide_eq_true h1, Bool.true_and]
  rcases c3 with c3 | ⟨c3, c4, c5⟩
  ·rw [decide_eq_true c3, Bool.true_or]
  ·have hch : (chainP u su).length < 8 := by
    have := chain_le hs 8 su
    unfold chainP; omega
   obtain ⟨q, rfl⟩ : ∃ q : Nat, su = (q : Int) := ⟨su.toNat, by omega⟩
   have eq := h.e q (by omega)
   rw [decide_eq_true hch, Bool.true_and, eq]
   dsimp only
   rw [decide_eq_true c5, Bool.or_true]
theorem TC.at0 {u l : List UClass} {S : Nat → Nat → Bool} (h : TC u l S) {k : Nat} (hk : k < l.length) : classAt u 6 9 k = 0 := by
 have hn := h.name hk
 have hb : bindsP (clAt u k).binds 6 9 = true := by
  rw [h.e k hk]
  show bindsP (if k = 0 then [] else selS (S k) 6) 6 9 = true
  split
  ·rfl
  ·rw [selS_6]; exact sel6_b _ _ _ _ _ _
 have n5 := h.f.n5
 have hnm : (decide ((clAt u k).name.length < 1) || decide (16 < (clAt u k).name.length) || (u.take k).any fun x => x.name == (clAt u k).name) = false := by
  have h1 : decide ((clAt u k).name.length < 1) = false := by rw [hn]; split; rfl; split <;> rfl
  have h2 : decide (16 < (clAt u k).name.length) = false := by rw [hn]; split; rfl; split <;> rfl
  rw [h1, h2, Bool.false_or, Bool.false_or, List.any_eq_false]
  intro x hx
  obtain ⟨j, hj, rfl⟩ := List.mem_iff_getElem.1 hx
  have hj1 : j < k := by rw [List.length_take] at hj; omega
  have hj2 : j < u.length := by rw [h.n]; omega
  rw [List.getElem_take, show u[j] = clAt u j from (clAt_nat hj2).symm, h.name (by omega : j < l.length), hn]
  rcases (by omega : j = 0 ∨ j = 1 ∨ 2 ≤ j) with rfl | rfl | h3
  ·rcases (by omega : k = 1 ∨ 2 ≤ k) with rfl | h4
   ·decide
   ·rw [if_pos rfl, if_neg (by omega), if_neg (by omega)]; simp
  ·rw [if_neg (by omega), if_pos rfl, if_neg (by omega), if_neg (by omega)]; simp
  ·rw [if_neg (by omega), if_neg (by omega), if_neg (by omega), if_neg (by omega)]
   simp; omega
 unfold classAt
 rw [hnm, h.superP hk, hb]
 rfl
theorem firstBad_0 {n : Nat} {f : Nat → Int} (h : ∀ i, i < n → f i = 0) : firstBad n f = 0 := by
 have : (List.range n).find? (fun i => f i != 0) = none := List.find?_eq_none.2 fun i hi => by rw [h i (List.mem_range.1 hi)]; decide
 unfold firstBad
 rw [this]
theorem TC.shape {u l : List UClass} {S : Nat → Nat → Bool} (h : TC u l S) : shapeP u 6 9 = 0 := by
 have n3 := h.f.n3; have n5 := h.f.n5; have hn := h.n
 have e0 := h.e 0 (by omega)
 have e1 := h.e 1 (by omega)
 rw [show ((0 : Nat) : Int) = 0 from rfl, h.f.c0] at e0
 rw [show ((1 : Nat) : Int) = 1 from rfl, h.f.c1] at e1
 unfold shapeP
 rw [if_neg (by omega), e0, e1, if_neg (by simp)]
 exact firstBad_0 fun i hi => h.at0 (by omega)
set_option maxHeartbeats 4000000
theorem flatI_get : ∀ (l : List In2) (i : Nat) (hi : i < l.length), (flatI l).getD (2 * i) 0 = l[i].1 ∧ (flatI l).getD (2 * i + 1) 0 = l[i].2
 | p :: l, 0, _ => ⟨rfl, rfl⟩
 | p :: l, i + 1, hi => by
  have := flatI_get l i (by simpa using hi)
  have e : flatI (p :: l) = p.1 :: p.2 :: flatI l := rfl
  rw [e, show 2 * (i + 1) = 2 * i + 1 + 1 by omega, show 2 * i + 1 + 1 + 1 = (2 * i + 1) + 1 + 1 from rfl]
  exact this
theorem okL.at : ∀ {l : List In2}, okL l → ∀ (i : Nat) (hi : i < l.length), okOne l[i].1 l[i].2 (l.length - (i + 1))
 | p :: l, h, 0, _ => by
  simp only [List.length_cons]
  exact h.1
 | p :: l, h, i + 1, hi => by
  have := okL.at h.2 i (by simpa using hi)
  simp only [List.length_cons, List.getElem_cons_succ]
  rw [show l.length + 1 - (i + 1 + 1) = l.length - (i + 1) by omega]
  exact this
theorem litsOk.at {size : Int} {xs : List Pr2} (h : litsOk size xs) {i : Nat} (hi : i < 14) : (i < 4 → (xs.getD i (0, 0)).1 = 3 ∧ -1073741824 ≤ (xs.getD i (0, 0)).2 ∧ (xs.getD i (0, 0)).2 ≤ 1073741823) ∧ (4 ≤ i → i < 10 → (xs.getD i (0, 0)).1 = 5 ∧ 0 ≤ (xs.getD i (0, 0)).2 ∧ (xs.getD i (0, 0)).2 < 6) ∧ (10 ≤ i → i < 12 → (xs.getD i (0, 0)).1 = 6 ∧ 2 ≤ (xs.getD i (0, 0)).2 ∧ (xs.getD i (0, 0)).2 < size) ∧ (12 ≤ i → (xs.getD i (0, 0)).1 = 7 ∧ 0 ≤ (xs.getD i (0, 0)).2 ∧ (xs.getD i (0, 0)).2 < 9) := by
 obtain ⟨A, C, hA, nA, hC, cC, rfl⟩ := h
 obtain ⟨a0, a1, a2, a3, rfl⟩ : ∃ a0 a1 a2 a3, A = [a0, a1, a2, a3] := by
  match A, hA with
  | [a0, a1, a2, a3], _ => exact ⟨a0, a1, a2, a3, rfl⟩
 obtain ⟨c0, c1, rfl⟩ : ∃ c0 c1, C = [c0, c1] := by
  match C, hC with
  | [c0, c1], _ => exact ⟨c0, c1, rfl⟩
 have h0 := nA a0 (by simp)
 have h1 := nA a1 (by simp)
 have h2 := nA a2 (by simp)
 have h3 := nA a3 (by simp)
 have k0 := cC c0 (by simp)
 have k1 := cC c1 (by simp)
 have e : [a0, a1, a2, a3] ++ selL 6 ++ [c0, c1] ++ [((7 : Int), (7 : Int)), (7, 8)] = [a0, a1, a2, a3, (5, 0), (5, 1), (5, 2), (5, 3), (5, 4), (5, 5), c0, c1, (7, 7), (7, 8)] := rfl
 rw [e]
 rcases (by omega : i = 0 ∨ i = 1 ∨ i = 2 ∨ i = 3 ∨ i = 4 ∨ i = 5 ∨ i = 6 ∨ i = 7 ∨ i = 8 ∨ i = 9 ∨ i = 10 ∨ i = 11 ∨ i = 12 ∨ i = 13) with rfl | rfl | rfl | rfl | rfl | rfl | rfl | rfl | rfl | rfl | rfl | rfl | rfl | rfl <;>
  simp only [List.getD_cons_succ, List.getD_cons_zero] <;> refine ⟨fun _ => ?_, fun _ _ => ?_, fun _ _ => ?_, fun _ => ?_⟩ <;> first | omega | assumption | decide
theorem methOk.right {u : UUnit} {args : Int} {m : UMethod} (h : methOk u.classes.length args m) (ha : 0 ≤ args ∧ args ≤ 2) (hn : u.names.length = 6) (hm : u.methods.length = 9) : methodP u m = 0 := by
 obtain ⟨h1, h2, h3, l, e, h4, h5, h6, h7⟩ := h
 have hl := h3.len
 have hcl : m.code.length = 2 * (l.length + 1) := by rw [h4, flatI_len, List.length_append]; rfl
 have hsh : shortP m = true := decide_eq_true (by omega)
 have hget : ∀ i (hi : i < (l ++ [(e, 0)]).length), m.code.getD (2 * i) 0 = (l ++ [(e, 0)])[i].1 ∧ m.code.getD (2 * i + 1) 0 = (l ++ [(e, 0)])[i].2 := by rw [h4]; exact flatI_get _
 have hll : (l ++ [(e, 0)]).length = l.length + 1 := by simp
 have hen : endsP m = true := by
  have := (hget l.length (by omega)).1
  rw [List.getElem_append_right (Nat.le_refl _)] at this
  simp only [Nat.sub_self, List.getElem_cons_zero] at this
  refine decide_eq_true ⟨by omega, by omega, ?_⟩
  rw [hcl, show 2 * (l.length + 1) - 2 = 2 * l.length by omega, this]
  omega
 have hli : m.lits.all (litP u) = true := by
  refine List.all_eq_true.2 fun v hv => ?_
  obtain ⟨i, hi, rfl⟩ := List.mem_iff_getElem.1 hv
  have := h3.at (i := i) (by omega)
  rw [List.getD_eq_getElem?_getD, List.getElem?_eq_getElem hi, Option.getD_some] at this
  obtain ⟨k1, k2, k3, k4⟩ := this
  unfold litP
  rcases (by omega : i < 4 ∨ (4 ≤ i ∧ i < 10) ∨ (10 ≤ i ∧ i < 12) ∨ 12 ≤ i) with hq | hq | hq | hq
  ·have k := k1 hq
   rw [if_pos k.1]; exact decide_eq_true k.2
  ·have k := k2 hq.1 hq.2
   rw [if_neg (by omega), if_pos k.1]; exact decide_eq_true (by omega)
  ·have k := k3 hq.1 hq.2
   rw [if_neg (by omega), if_neg (by omega), if_pos k.1]; exact decide_eq_true (by omega)
  ·have k := k4 hq
   rw [if_neg (by omega), if_neg (by omega), if_neg (by omega), if_pos k.1]; exact decide_eq_true (by omega)
 have hlit : ∀ i : Nat, ∀ k : Int, i < 14 → (m.lits.getD i (0, 0)).1 = k → litAt m i k = true := fun i k hi hk => by
  unfold litAt
  rw [hk, decide_eq_true (by omega : i < m.lits.length)]
  simp
 have hco : codeP m = true := by
  refine List.all_eq_true.2 fun i hi => ?_
  have hi' : i < l.length + 1 := by have := List.mem_range.1 hi; omega
  have hat := h5.at i (by omega)
  obtain ⟨g1, g2⟩ := hget i (by omega)
  unfold codeAt
  rw [g1, g2]
  generalize (l ++ [(e, 0)])[i].1 = op at *
  generalize (l ++ [(e, 0)])[i].2 = arg at *
  obtain ⟨o1, o2, o3, o4, o5, o6, o7, o8, o9, o10⟩ := hat
  rw [hll] at o8
  unfold instP
  by_cases q1 : op = 0 ∨ op = 10
  ·rw [if_pos q1]; have := o2 q1; exact decide_eq_true (by omega)
  rw [if_neg q1]
  by_cases q2 : op = 1 ∨ op = 11
  ·rw [if_pos q2]; exact decide_eq_true (o3 q2)
  rw [if_neg q2]
  by_cases q3 : op = 2
  ·rw [if_pos q3]; have := o4 q3; exact hlit _ _ (by omega) ((h3.at (i := arg) (by omega)).1 this).1
  rw [if_neg q3]
  by_cases q4 : op = 12 ∨ op = 13
  ·rw [if_pos q4]; have := o5 q4; exact hlit _ _ (by omega) ((h3.at (i := arg) (by omega)).2.1 this.1 (by omega)).1
  rw [if_neg q4]
  by_cases q5 : op = 20
  ·have := o6 q5
   have k := (h3.at (i := arg) (by omega)).2.2.1 this.1 (by omega)
   rw [if_pos q5, hlit _ _ (by omega) k.1, Bool.true_and]; exact decide_eq_true k.2.1
  rw [if_neg q5]
  by_cases q6 : op = 18
  ·rw [if_pos q6]; have := o7 q6; exact hlit _ _ (by omega) ((h3.at (i := arg) (by omega)).2.2.2 this.1).1
  rw [if_neg q6]
  by_cases q7 : op = 15 ∨ op = 17
  ·rw [if_pos q7]; have := o8 q7; exact decide_eq_true (by omega)
  rw [if_neg q7, if_neg o9]
  by_cases q8 : op = 21
  ·rw [if_pos q8]; exact decide_eq_true (o10 q8)
  rw [if_neg q8]
  exact decide_eq_true o1
 unfold methodP
 rw [hsh, hen, hli, hco]
 rfl
structure TQ (u : UUnit) : Prop where
 n : u.names = nmsU
 m : u.main = 6
 c : ∃ l S, TC u.classes l S
 m9 : u.methods.length = 9
 ma : ∀ q, q < 9 → methOk u.classes.length (if q = 8 then 1 else argsK q) (mAt u q)
 o1 : 1 ≤ u.objects.length
 o5 : u.objects.length ≤ 5
 o : ∀ o, o ∈ u.objects → ((o.cls = 1 ∧ o.fields.length ≤ 8) ∨ (2 ≤ o.cls ∧ o.cls < u.classes.length ∧ (o.fields.length : Int) = (clAt u.classes o.cls).fields)) ∧ ∀ v, v ∈ o.fields → vOk u.objects.length v
theorem TU.tq {u : UUnit} (h : TU u) : TQ u := by
 obtain ⟨h1, h2, l, i, S, hi1, hi3, hok, hcl, hce, hm, hmo, ho1, ho5, hob⟩ := h
 have hlen := hok.len
 obtain ⟨f0, f1, fc⟩ := hok.clf
 have tc : TC u.classes l S := by
  refine ⟨⟨by omega, by omega, f0, f1, fc⟩, hcl, fun j hj => ?_⟩
  rw [clAt_nat hj, clAt_nat (by omega), hce j hj (by omega)]
 refine ⟨h1, h2, ⟨l, S, tc⟩, hm, fun q hq => ?_, ho1, ho5, fun o ho => ?_⟩
 ·rw [mAt_nat (by omega), hcl]
  exact hmo q (by omega)
 ·obtain ⟨k1, k2⟩ := hob o ho
  refine ⟨?_, k2⟩
  rcases k1 with k1 | ⟨k1, k3, k4⟩
  ·exact .inl k1
  ·refine .inr ⟨k1, by omega, ?_⟩
   obtain ⟨q, hq⟩ : ∃ q : Nat, o.cls = (q : Int) := ⟨o.cls.toNat, by omega⟩
   rw [hq] at k4 ⊢
   rw [tc.e q (by omega), k4]
theorem TQ.argsQ {u : UUnit} (h : TQ u) {q : Nat} (hq : q < 9) : (mAt u q).args = if q = 8 then 1 else argsK q := (h.ma q hq).1
theorem TC.bind {u l : List UClass} {S : Nat → Nat → Bool} (h : TC u l S) {c : UClass} (hc : c ∈ u) : c.binds = [] ∨ ∃ S, c.binds = selS S 6 := by
 obtain ⟨j, hj, rfl⟩ := List.mem_iff_getElem.1 hc
 rw [← clAt_nat hj, h.e j (by rw [← h.n]; exact hj)]
 dsimp only
 split
 ·exact .inl rfl
 ·exact .inr ⟨_, rfl⟩
theorem names_ok : namesP nmsU = true := by decide +kernel
theorem nms_args : ∀ j, j < 6 → argsP (nmsU.getD j []) = argsK j := by decide +kernel
theorem TQ.meths {u : UUnit} (h : TQ u) : methodsP u = 0 := by
 obtain ⟨l, S, tc⟩ := h.c
 have e1 : u.classes.any badDict = false := by
  refine List.any_eq_false.2 fun c hc => ?_
  have : dictP c.binds = true := by
   rcases tc.bind hc with e | ⟨S, e⟩
   ·rw [e]; rfl
   ·rw [e, selS_6]; exact sel6_d _ _ _ _ _ _
  simp [badDict, this]
 have e2 : firstBad u.methods.length (badMeth u) = 0 := firstBad_no fun j hj => by
  rw [h.m9] at hj
  refine (h.ma j hj).right ?_ (by rw [h.n]; rfl) h.m9
  have := argsK_le j
  split <;> omega
 have e3 : (u.classes.any fun c => c.binds.any (badBind u)) = false := by
  refine List.any_eq_false.2 fun c hc => ?_
  have : c.binds.any (badBind u) = false := by
   rcases tc.bind hc with e | ⟨S, e⟩
   ·rw [e]; rfl
   ·rw [e]
    refine List.any_eq_false.2 fun b hb => ?_
    obtain ⟨j, hj, rfl⟩ := selS_mem hb
    simp only [badBind, Int.toNat_natCast]
    rw [h.n, nms_args j hj, h.argsQ (by omega), if_neg (by omega)]
    simp
  simp [this]
 unfold methodsP
 rw [e1, e2, e3]
 rfl
theorem TQ.obj {u : UUnit} (h : TQ u) {o : UObj} (ho : o ∈ u.objects) : objP u o = true := by
 obtain ⟨l, S, tc⟩ := h.c
 have n3 := tc.f.n3; have n5 := tc.f.n5; have hn := tc.n
 obtain ⟨k1, k2⟩ := h.o o ho
 unfold objP
 rw [decide_eq_true, Bool.true_and]
 ·refine List.all_eq_true.2 fun v hv => ?_
  unfold valP
  rcases k2 v hv with ⟨q1, q2⟩ | ⟨q1, q2⟩ | ⟨q1, q2⟩
  ·rw [if_pos q1]; exact decide_eq_true q2
  ·rw [if_neg (by omega), if_pos q1]; exact decide_eq_true (by omega)
  ·rw [if_neg (by omega), if_neg (by omega), if_pos q1]; exact decide_eq_true q2
 ·rcases k1 with ⟨q1, q2⟩ | ⟨q1, q2, q3⟩
  ·exact ⟨by omega, by omega, by omega, fun h => by omega⟩
  ·obtain ⟨q, hq⟩ : ∃ q : Nat, o.cls = (q : Int) := ⟨o.cls.toNat, by omega⟩
   have hs := tc.superP (k := q) (by omega)
   rw [hq] at q3
   unfold superP at hs
   have hs1 := (Bool.and_eq_true _ _ ▸ hs).1
   have hs2 := of_decide_eq_true hs1
   exact ⟨by omega, by omega, by omega, fun _ => by rw [hq]; exact q3⟩
theorem TQ.right {u : UUnit} (h : TQ u) : unitP u = 0 := by
 obtain ⟨l, S, tc⟩ := h.c
 have e1 : sizesP u = true := decide_eq_true ⟨by rw [h.n]; decide, by rw [h.m9]; decide, by rw [h.m9]; decide, h.o1, by have := h.o5; omega⟩
 have e2 : namesP u.names = true := by rw [h.n]; exact names_ok
 have e3 : shapeP u.classes u.names.length u.methods.length = 0 := by rw [h.n, h.m9]; exact tc.shape
 have e4 : u.objects.all (objP u) = true := List.all_eq_true.2 fun o ho => h.obj ho
 have e5 : mainP u = true := by
  unfold mainP
  rw [h.m, h.m9, show (6 : Int).toNat = 6 from rfl, h.argsQ (by omega)]; rfl
 unfold unitP
 rw [e1, e2, e3, h.meths, e4, e5]
 rfl
theorem TQ.bnd {u : UUnit} (h : TQ u) : BndU u := by
 obtain ⟨l, S, tc⟩ := h.c
 have n3 := tc.f.n3; have n5 := tc.f.n5; have hn := tc.n
 have hm : ∀ m, m ∈ u.methods → ∃ a, methOk u.classes.length a m := fun m hm => by
  obtain ⟨j, hj, rfl⟩ := List.mem_iff_getElem.1 hm
  have := h.ma j (by have := h.m9; omega)
  rw [mAt_nat hj] at this
  exact ⟨_, this⟩
 refine ⟨by rw [h.n]; decide, by omega, by rw [h.m9]; decide, by have := h.o5; omega, fun c hc => ?_, fun m hx => ?_, fun m hx => ?_, fun o ho => ?_⟩
 ·rcases tc.bind hc with e | ⟨S, e⟩
  ·rw [e]; decide
  ·rw [e]; have := selS_len S 6; omega
 ·obtain ⟨a, h1⟩ := hm m hx
  rw [h1.2.2.1.len]; decide
 ·obtain ⟨a, -, -, -, l, e, h4, -, -, h7⟩ := hm m hx
  rw [h4, flatI_len, List.length_append, List.length_singleton]; omega
 ·have hp := h.obj ho
  unfold objP at hp
  have hs2 := of_decide_eq_true (Bool.and_eq_true _ _ ▸ hp).1
  omega
attribute [local go_sem ↓] WP_seq WP_skip WP_region WP_dregion WP_cond WP_block WP_exit WP_ret OW_nil OW_cons DW_nil DW_cons XW_call reduceIte OW_guard DW_guard
attribute [local go_sem] XW exA KO_eq OptK_some EvK_some GW2_true GW2_false KS_normal KS_ret KS_exit KB_normal KB_ret KB_exit CP2_bool RP_ret putA_some putA_none ev_t ev_c evs evo wantA initA resA Tr.get_set vl chkOk cond_true cond_false Nat.add_zero Nat.mul_one Nat.one_mul Nat.zero_add Nat.zero_mul aggOf pInt binA unA intA beq_true beq_false Bool.not_true Bool.not_false Bool.not_eq_true and_self and_true true_and reduceIte Nat.reduceEqDiff Nat.succ_ne_self Nat.reduceAdd Nat.reduceMul Nat.reduceSub Nat.reduceBEq Nat.reduceLT Nat.reduceLeDiff Int.cast_ofNat_Int Int.reduceToNat Int.reduceLT Int.reduceLE Int.reduceGE Int.reduceGT Int.reduceEq Int.reduceNe Int.reduceAdd Int.reduceSub Int.reduceNeg decide_true decide_false Int.toNat_natCast reduceCtorEq List.nil_append List.cons_append AV.boxy AV.cells List.length_cons List.length_nil Nat.beq_refl AOp.cl KDW_0 KDW_1 KDW_2 OWskip_eq DWskip_eq fillA setAt DChk DAt stepA ble_dec beq_dec Bool.and_self Bool.and_true Bool.true_and Bool.and_false Bool.false_and List.take_succ_cons List.take_zero List.drop_succ_cons List.drop_zero List.take_nil List.drop_nil List.append_nil eqAV eqAVL BEq.rfl sameS Option.map Option.isNone wrap64 gt_iff_lt ge_iff_le Int.lt_irrefl Int.le_refl
set_option maxHeartbeats 4000000
attribute [local irreducible] Tr.set
theorem c_lsame {H : AHeap} {u : UUnit} {cu : List AV} (hu : UnE H u cu) (hb : BndU u) {i : Int} (hi : I64 i) (sel : Int) : CW MN 12 [.agg cu, .int .i64 i, .int .i64 sel] H fun w H' => w = .bool true ∧ Sm H H' := by
 refine CW_of (fn := af12) rfl ?_
 dsimp only [af12, qm, q, qG, qn, qi, qb, qB, qk, qc, qo, qg, qv, qr]
 obtain ⟨v1, v2, v3, v4, b1, rfl⟩ := BoxU.of hu
 have s1 := Chg.newRow H [v1, v2, v3, v4, .int .i64 u.main]
 generalize eH1 : H.newRow [v1, v2, v3, v4, .int .i64 u.main] = H1 at s1 b1
 obtain ⟨p1, q1, k1, rfl, -⟩ := b1.names.shape
 obtain ⟨p2, q2, k2, rfl, -⟩ := b1.classes.shape
 obtain ⟨p3, q3, k3, rfl, -⟩ := b1.methods.shape
 obtain ⟨p4, q4, k4, rfl, -⟩ := b1.objects.shape
 have a1 := b1.all
 simp -implicitDefEqProofs only [eH1, a1, go_sem]
 refine CW.mono (c_unitRight b1.un) ?_
 rintro _ H2 ⟨rfl, s2⟩
 have b2 := b1.sm s2
 have a2 := b2.all
 simp -implicitDefEqProofs only [a2, go_sem]
 refine CW.mono (c_rUnit b2.un) ?_
 rintro _ H3 ⟨rfl, s3⟩
 have b3 := b2.sm s3
 have a3 := b3.all
 simp -implicitDefEqProofs only [a3, go_sem]
 refine CW.mono (c_Find b3.un hi sel) ?_
 rintro _ H4 ⟨rfl, s4⟩
 have b4 := b3.sm s4
 have a4 := b4.all
 simp -implicitDefEqProofs only [a4, go_sem]
 refine CW.mono (c_rFind b4.un hi sel) ?_
 rintro _ H5 ⟨rfl, s5⟩
 have b5 := b4.sm s5
 have a5 := b5.all
 simp -implicitDefEqProofs only [a5, go_sem]
 refine CW.mono (c_Words b5.un) ?_
 rintro _ H6 ⟨rfl, s6⟩
 have b6 := b5.sm s6
 have a6 := b6.all
 simp -implicitDefEqProofs only [a6, go_sem]
 refine CW.mono (c_rWords b6.un) ?_
 rintro _ H7 ⟨rfl, s7⟩
 have b7 := b6.sm s7
 have a7 := b7.all
 simp -implicitDefEqProofs only [a7, go_sem]
 refine CW.mono (c_Same b7.un b7.un) ?_
 rintro _ H8 ⟨rfl, s8⟩
 have b8 := b7.sm s8
 have a8 := b8.all
 have et : decide (u = u) = true := decide_eq_true rfl
 simp -implicitDefEqProofs only [et, a8, go_sem]
 refine CW.mono (c_Copy b8.un hb) ?_
 rintro _ H9 ⟨cs, rfl, cp⟩
 have s9 := cp.sm
 have b9 := b8.sm s9
 have a9 := b9.all
 simp -implicitDefEqProofs only [a9, go_sem]
 refine CW.mono (c_rSame cp.un b9.un) ?_
 rintro _ H10 ⟨rfl, s10⟩
 simp -implicitDefEqProofs only [et, a1, a2, a3, a4, a5, a6, a7, a8, a9, go_sem]
 exact ((((((((s1.trans s2).trans s3).trans s4).trans s5).trans s6).trans s7).trans s8).trans s9).trans s10
set_option maxHeartbeats 4000000
def St (H0 : AHeap) (lo : Nat) (K : AHeap) (P : AHeap → Prop) : Prop := ∀ K', K.next ≤ K'.next → (∀ z, lo ≤ z → z < K.next → K'.get z = K.get z) → Sm H0 K' → P K'
theorem St.map {H0 K : AHeap} {lo : Nat} {P Q : AHeap → Prop} (h : St H0 lo K P) (f : ∀ K, P K → Q K) : St H0 lo K Q := fun K' a b c => f _ (h K' a b c)
theorem St.of {H0 K : AHeap} {lo : Nat} {P : AHeap → Prop} (h : ∀ K', Sm H0 K' → P K') : St H0 lo K P := fun K' _ _ c => h K' c
theorem St.and {H0 K : AHeap} {lo : Nat} {P Q : AHeap → Prop} (h : St H0 lo K P) (h' : St H0 lo K Q) : St H0 lo K fun K => P K ∧ Q K := fun K' a b c => ⟨h K' a b c, h' K' a b c⟩
theorem Rd.st {H0 K : AHeap} {lo x i : Nat} {cs : List AV} (h : Rd K x i cs) (hx : lo ≤ x) : St H0 lo K fun K' => Rd K' x i cs := fun K' a b _ => h.keep a (b x hx h.1)
theorem Rd.stE {α : Type} {E : Rep α} {H0 K : AHeap} {lo x s n : Nat} {cs : List AV} {xs : List α} {cl : Bool} (h : Rd K x 0 cs) (hx : lo ≤ x) (hn : n = xs.length) (hl : cs.length = xs.length * s) (hm : xs.length ≤ maxLen) (hj : ∀ j (hj : j < xs.length), St H0 lo K fun K' => E K' xs[j] ((cs.drop (j * s)).take s)) : St H0 lo K fun K' => SlE E s K' xs [.slice (some (x, 0)) s n cl] := fun K' a b c => by
 subst hn
 exact ⟨_, _, _, rfl, .inr rfl, hm, fun _ => ⟨x, 0, cs, rfl, h.keep a (b x hx h.1), hl, fun j h => hj j h K' a b c⟩⟩
theorem setAt_one {cs : List AV} {p : Nat} (hp : p < cs.length) (w : AV) (k : Nat) : (setAt cs p [w])[k]? = if k = p then some w else cs[k]? := by
 unfold setAt
 simp only [List.length_cons, List.length_nil]
 rw [List.append_assoc]
 by_cases h1 : k < p
 ·rw [List.getElem?_append_left (by simp; omega), List.getElem?_take, if_pos h1, if_neg (by omega)]
 ·rw [List.getElem?_append_right (by simp; omega)]
  simp only [List.length_take]
  rw [show k - min p cs.length = k - p by omega]
  by_cases h2 : k = p
  ·subst h2; simp
  ·rw [if_neg h2]
   obtain ⟨q, rfl⟩ : ∃ q, k = p + 1 + q := ⟨k - (p + 1), by omega⟩
   rw [show p + 1 + q - p = q + 1 by omega]
   simp [List.getElem?_drop]
theorem setAt_lenO {cs : List AV} {p : Nat} (hp : p < cs.length) (w : AV) : (setAt cs p [w]).length = cs.length := by
 unfold setAt; simp; omega
theorem chunk_set {cs : List AV} {s i o j : Nat} (ho : o < s) (hi : i * s + s ≤ cs.length) (w : AV) : ((setAt cs (i * s + o) [w]).drop (j * s)).take s = if j = i then setAt ((cs.drop (i * s)).take s) o [w] else (cs.drop (j * s)).take s := by
 refine List.ext_getElem? fun k => ?_
 rw [List.getElem?_take, List.getElem?_drop, setAt_one (by omega)]
 by_cases hji : j = i
 ·subst hji
  rw [if_pos rfl, setAt_one (by simp; omega), List.getElem?_take, List.getElem?_drop]
  by_cases hk : k < s
  ·rw [if_pos hk, if_pos hk]
   by_cases hko : k = o
   ·subst hko; rw [if_pos rfl, if_pos rfl]
   ·rw [if_neg (by omega), if_neg hko]
  ·rw [if_neg hk, if_neg hk, if_neg (by omega)]
 ·rw [if_neg hji, List.getElem?_take, List.getElem?_drop]
  by_cases hk : k < s
  ·rw [if_pos hk, if_pos hk, if_neg]
   intro e
   rcases Nat.lt_or_gt_of_ne hji with h | h
   ·have : (j + 1) * s ≤ i * s := Nat.mul_le_mul_right s h
    rw [Nat.add_mul, Nat.one_mul] at this
    omega
   ·have : (i + 1) * s ≤ j * s := Nat.mul_le_mul_right s h
    rw [Nat.add_mul, Nat.one_mul] at this
    omega
  ·rw [if_neg hk, if_neg hk]
structure RowB {α : Type} (H0 : AHeap) (E : Rep α) (s : Nat) (H : AHeap) (xs : List α) (x : Nat) (cs : List AV) : Prop where
 a : Arr H x cs fun _ => False
 l : cs.length = xs.length * s
 m : xs.length ≤ maxLen
 e : ∀ j (hj : j < xs.length), E H0 xs[j] ((cs.drop (j * s)).take s)
theorem RowB.keep {α : Type} {H0 : AHeap} {E : Rep α} {s : Nat} {H H' : AHeap} {xs : List α} {x : Nat} {cs : List AV} (h : RowB H0 E s H xs x cs) (hl : H.next ≤ H'.next) (hg : H'.get x = H.get x) : RowB H0 E s H' xs x cs := ⟨h.a.keep hl hg, h.l, h.m, h.e⟩
theorem RowB.st {α : Type} {H0 : AHeap} {E : Rep α} {s : Nat} {H : AHeap} {xs : List α} {x : Nat} {cs : List AV} (h : RowB H0 E s H xs x cs) (hE : MonoE E) {lo n : Nat} {cl : Bool} (hx : lo ≤ x) (hn : n = xs.length) : St H0 lo H fun K' => SlE E s K' xs [.slice (some (x, 0)) s n cl] :=
 h.a.rd.stE hx hn h.l h.m fun j hj => St.of fun K' s => hE _ _ _ _ (h.e j hj) s
theorem RowB.put {α : Type} {H0 : AHeap} {E : Rep α} {s : Nat} {H : AHeap} {xs : List α} {x : Nat} {cs : List AV} (h : RowB H0 E s H xs x cs) {i o : Nat} (hi : i < xs.length) (ho : o < s) (w : AV) :
  ∃ H', storeA H x (i * s + o) [w] = some H' ∧ H'.next = H.next ∧ (∀ z, z ≠ x → H'.get z = H.get z) ∧ Arr H' x (setAt cs (i * s + o) [w]) (fun _ => False) := by
 have hle : (i + 1) * s ≤ xs.length * s := Nat.mul_le_mul_right s hi
 rw [Nat.add_mul, Nat.one_mul] at hle
 have hl := h.l
 obtain ⟨H', e, n, a, g⟩ := h.a.store (o := i * s + o) (vs := [w]) (by simp; omega) rfl
 exact ⟨H', e, n, fun z hz => g z hz (fun h => h), a⟩
theorem RowB.set {α : Type} {H0 : AHeap} {E : Rep α} {s : Nat} {H H' : AHeap} {xs : List α} {x : Nat} {cs : List AV} (h : RowB H0 E s H xs x cs) (hE : MonoE E) {i o : Nat} (hi : i < xs.length) (ho : o < s) {w : AV} (ha : Rd H' x 0 (setAt cs (i * s + o) [w])) {lo n : Nat} {cl : Bool} (hx : lo ≤ x) (hn : n = xs.length) {a' : α} (hn' : St H0 lo H' fun K => E K a' (setAt ((cs.drop (i * s)).take s) o [w])) : St H0 lo H' fun K' => SlE E s K' (xs.set i a') [.slice (some (x, 0)) s n cl] := by
 have hle : (i + 1) * s ≤ xs.length * s := Nat.mul_le_mul_right s hi
 rw [Nat.add_mul, Nat.one_mul] at hle
 have hl := h.l
 refine ha.stE hx (by rw [List.length_set]; exact hn) (by rw [setAt_lenO (by omega), List.length_set]; exact hl) (by rw [List.length_set]; exact h.m) fun j hj => ?_
 rw [chunk_set ho (by omega), List.getElem_set]
 by_cases hji : j = i
 ·subst hji
  rw [if_pos rfl, if_pos rfl]; exact hn'
 ·rw [if_neg hji, if_neg (Ne.symm hji)]
  exact St.of fun K' s => hE _ _ _ _ (h.e j (by simpa using hj)) s
theorem append_own {K : AHeap} {y s n bytes : Nat} {src : AV} {cs : List AV} (hy : Arr K y [] fun _ => False) (hs : srcA K s false src = some (cs, n)) (hl : cs.length = n * s) (hb : n * bytes ≤ 140737488355328) (hm : n ≤ 140737488355328) :
  ∃ x cl K2, appendF K s bytes false (.slice (some (y, 0)) s 0 true) src = some (.slice (some (x, 0)) s n cl, K2) ∧ Sm K K2 ∧ (x = y ∨ x = K.next) ∧ Arr K2 x cs fun _ => False := by
 by_cases h0 : n = 0
 ·subst h0
  have hc : cs = [] := List.eq_nil_of_length_eq_zero (by omega)
  subst hc
  refine ⟨y, true, K, ?_, Chg.refl K, .inl rfl, hy⟩
  unfold appendF appendA
  simp only [hs]
  rfl
 ·have e2 : n.beq 0 = false := nbf h0
  have hld : loadA K y 0 0 = some [] := hy.rd.load rfl
  refine ⟨K.next, false, K.newRow cs, ?_, Chg.newRow K cs, .inr rfl, Arr.newRow K cs _⟩
  unfold appendF appendA
  simp only [hs, e2, cond_false, Nat.zero_add, Nat.ble_eq_true_of_le hb, Nat.ble_eq_true_of_le hm, Bool.and_self, cond_true, Nat.beq_refl, Nat.zero_mul, hld, List.nil_append]
theorem fin_unit {H0 K : AHeap} {B : Nat} {u : UUnit} {v1 v2 v3 v4 : AV} {m0 : AV} {zs : List AV} (hB : H0.next ≤ B) (sK : Sm H0 K) (hb : Arr K B [v1, v2, v3, v4, m0] fun _ => False) (hr : Arr K (B + 1) zs fun _ => False) (hz : zs.length = 5) (h : St H0 (B + 2) K fun K' => UnE K' u [v1, v2, v3, v4, m0]) :
  loadA K B 0 5 = some [v1, v2, v3, v4, m0] ∧ ∃ K', storeA K (B + 1) 0 [v1, v2, v3, v4, m0] = some K' ∧ loadA K' (B + 1) 0 5 = some [v1, v2, v3, v4, m0] ∧ UnE K' u [v1, v2, v3, v4, m0] ∧ Sm H0 K' := by
 obtain ⟨K', e, n, a, g⟩ := hr.store (o := 0) (vs := [v1, v2, v3, v4, m0]) (cs' := [v1, v2, v3, v4, m0]) (by simp; omega) (by
  unfold setAt
  rw [List.take_zero, List.nil_append, List.drop_eq_nil_of_le (by simp; omega), List.append_nil])
 have s' : Sm H0 K' := Sm.of (by rw [n]; exact sK.1) fun z hz => by rw [g z (by omega) (fun h => h), sK.gt hz]
 exact ⟨hb.rd.load rfl, K', e, a.rd.load rfl, h K' (by omega) (fun z h1 _ => g z (by omega) (fun h => h)) s', s'⟩
set_option maxHeartbeats 4000000
structure SmU (N : Nat) (u : UUnit) : Prop where
 n : u.names.length ≤ N
 c : u.classes.length ≤ N
 m : u.methods.length ≤ N
 o : u.objects.length ≤ N
 cb : ∀ c, c ∈ u.classes → c.binds.length ≤ N
 ml : ∀ m, m ∈ u.methods → m.lits.length ≤ N
 mc : ∀ m, m ∈ u.methods → m.code.length ≤ N
 of : ∀ o, o ∈ u.objects → o.fields.length ≤ N
structure GeU (u : UUnit) : Prop where
 c : 1 ≤ u.classes.length
 m : 1 ≤ u.methods.length
 o : 1 ≤ u.objects.length
theorem SmU.bnd {N : Nat} {u : UUnit} (h : SmU N u) (hN : N ≤ 100000) : BndU u :=
 ⟨by have := h.n; omega, by have := h.c; omega, by have := h.m; omega, by have := h.o; omega, fun c hc => by have := h.cb c hc; omega, fun c hc => by have := h.ml c hc; omega, fun c hc => by have := h.mc c hc; omega, fun c hc => by have := h.of c hc; omega⟩
theorem SmU.up {N M : Nat} {u : UUnit} (h : SmU N u) (hN : N ≤ M) : SmU M u :=
 ⟨by have := h.n; omega, by have := h.c; omega, by have := h.m; omega, by have := h.o; omega, fun c hc => by have := h.cb c hc; omega, fun c hc => by have := h.ml c hc; omega, fun c hc => by have := h.mc c hc; omega, fun c hc => by have := h.of c hc; omega⟩
theorem copy_step {α : Type} {E : Rep α} (hE : MonoE E) {H0 K : AHeap} {B s bytes i : Nat} {zs : List AV} {xs : List α} {v : AV} (hv : SlE E s H0 xs [v]) (sK : Sm H0 K) (hb : Arr K B zs fun _ => False) (hi : zs[i]? = some v) (hbt : xs.length * bytes ≤ 140737488355328) (hm : xs.length ≤ 140737488355328) :
  ∃ x cl cs K2 K3, loadA (K.newRow []) B i 1 = some [v] ∧ appendF (K.newRow []) s bytes false (.slice (some (K.next, 0)) s 0 true) v = some (.slice (some (x, 0)) s xs.length cl, K2) ∧ storeA K2 B i [.slice (some (x, 0)) s xs.length cl] = some K3 ∧ Arr K3 B (setAt zs i [.slice (some (x, 0)) s xs.length cl]) (fun _ => False) ∧ RowB H0 E s K3 xs x cs ∧ K.next ≤ x ∧ K.next ≤ K3.next ∧ ∀ z, z < K.next → z ≠ B → K3.get z = K.get z := by
 have s1 := Chg.newRow K []
 have a0 := Arr.newRow K [] fun _ => False
 have hn1 : (K.newRow []).next = K.next + 1 := rfl
 have hb1 := hb.sm s1
 generalize K.newRow [] = K1 at s1 a0 hn1 hb1
 obtain ⟨a, s0, cl0, rfl, -⟩ := hv.shape
 obtain ⟨cs, q1, q2, q3⟩ := SlE.row hE (hE.sl _ _ _ _ hv (sK.trans s1))
 obtain ⟨cs0, p1, p2, p3⟩ := SlE.row hE hv
 have hcs : cs = cs0 := by
  obtain ⟨a', s0', cl', e, k0, k1, k⟩ := hv
  cases e
  by_cases h0 : xs.length = 0
  ·rw [List.eq_nil_of_length_eq_zero (by rw [q2, h0]; simp : cs.length = 0), List.eq_nil_of_length_eq_zero (by rw [p2, h0]; simp : cs0.length = 0)]
  ·obtain ⟨x, o, cs', rfl, hr, hl, hj⟩ := k h0
   have r1 : srcA K1 s false (.slice (some (x, o)) s0 xs.length cl0) = some (cs', xs.length) := srcA_slice (hr.keep (Nat.le_trans sK.1 s1.1) (by rw [s1.gt (by have := hr.1; have := sK.1; omega), sK.gt hr.1])) hl
   have r2 : srcA H0 s false (.slice (some (x, o)) s0 xs.length cl0) = some (cs', xs.length) := srcA_slice hr hl
   rw [q1] at r1
   rw [p1] at r2
   injection r1 with r1; injection r1 with r1 _
   injection r2 with r2; injection r2 with r2 _
   rw [r1, r2]
 subst hcs
 obtain ⟨x, cl, K2, e1, s2, hx, a2⟩ := append_own (bytes := bytes) a0 q1 q2 hbt hm
 have hil := (List.getElem?_eq_some_iff.1 hi).1
 obtain ⟨K3, e2, n3, a3, g3⟩ := (hb1.sm s2).store (o := i) (vs := [.slice (some (x, 0)) s xs.length cl]) (by simp; omega) rfl
 have g3' : ∀ z, z ≠ B → K3.get z = K2.get z := fun z hz => g3 z hz (fun h => h)
 have ld := hb1.rd.one hi
 rw [Nat.zero_add] at ld
 have hBK := hb.1
 have n12 := s2.1
 exact ⟨x, cl, cs, K2, K3, ld, e1, e2, a3, ⟨a2.keep (by omega) (g3' _ (by omega)), q2, hv.max, p3⟩, by omega, by omega, fun z z1 z2 => by rw [g3' z z2, s2.gt (by omega), s1.gt z1]⟩
structure OU (H0 : AHeap) (u : UUnit) (K : AHeap) (n1 n2 n3 n4 x1 x2 x3 x4 : Nat) (c1 c2 c3 c4 : Bool) (k1 k2 k3 k4 : List AV) : Prop where
 sm : Sm H0 K
 box : Arr K H0.next [.slice (some (x1, 0)) 1 n1 c1, .slice (some (x2, 0)) 4 n2 c2, .slice (some (x3, 0)) 4 n3 c3, .slice (some (x4, 0)) 2 n4 c4, .int .i64 u.main] fun _ => False
 res : Arr K (H0.next + 1) [.slice none 1 0 true, .slice none 1 0 true, .slice none 1 0 true, .slice none 1 0 true, .int .i64 0] fun _ => False
 r1 : RowB H0 StE 1 K u.names x1 k1
 r2 : RowB H0 ClE 4 K u.classes x2 k2
 r3 : RowB H0 MeE 4 K u.methods x3 k3
 r4 : RowB H0 ObE 2 K u.objects x4 k4
 e1 : n1 = u.names.length
 e2 : n2 = u.classes.length
 e3 : n3 = u.methods.length
 e4 : n4 = u.objects.length
 l1 : H0.next + 2 ≤ x1
 l2 : x1 < x2
 l3 : x2 < x3
 l4 : x3 < x4
 mn : I64 u.main
theorem OU.keep {H0 : AHeap} {u : UUnit} {K K' : AHeap} {n1 n2 n3 n4 x1 x2 x3 x4 : Nat} {c1 c2 c3 c4 : Bool} {k1 k2 k3 k4 : List AV} (h : OU H0 u K n1 n2 n3 n4 x1 x2 x3 x4 c1 c2 c3 c4 k1 k2 k3 k4) (s : Sm K K') : OU H0 u K' n1 n2 n3 n4 x1 x2 x3 x4 c1 c2 c3 c4 k1 k2 k3 k4 :=
 { sm := h.sm.trans s, box := h.box.sm s, res := h.res.sm s, r1 := h.r1.keep s.1 (s.gt h.r1.a.1), r2 := h.r2.keep s.1 (s.gt h.r2.a.1), r3 := h.r3.keep s.1 (s.gt h.r3.a.1), r4 := h.r4.keep s.1 (s.gt h.r4.a.1), e1 := h.e1, e2 := h.e2, e3 := h.e3, e4 := h.e4, l1 := h.l1, l2 := h.l2, l3 := h.l3, l4 := h.l4, mn := h.mn }
theorem St.low {H0 K : AHeap} {lo lo' : Nat} {P : AHeap → Prop} (h : St H0 lo K P) (hl : lo' ≤ lo) : St H0 lo' K P := fun K' a b c => h K' a (fun z h1 h2 => b z (by omega) h2) c
theorem St.step {H0 K K1 : AHeap} {lo : Nat} {P : AHeap → Prop} (h : St H0 lo K P) (hn : K.next ≤ K1.next) (hg : ∀ z, lo ≤ z → z < K.next → K1.get z = K.get z) : St H0 lo K1 P := fun K' a b c => h K' (by omega) (fun z h1 h2 => by rw [b z h1 (by omega), hg z h1 h2]) c
theorem append_ownC {K : AHeap} {y s k n bytes : Nat} {src : AV} {c0 cs : List AV} (hy : Arr K y c0 fun _ => False) (hc0 : c0.length = k * s) (hs : srcA K s false src = some (cs, n)) (hl : cs.length = n * s) (hb : (k + n) * bytes ≤ 140737488355328) (hm : k + n ≤ 140737488355328) :
  ∃ x cl K2, appendF K s bytes false (.slice (some (y, 0)) s k true) src = some (.slice (some (x, 0)) s (k + n) cl, K2) ∧ Sm K K2 ∧ (x = y ∨ x = K.next) ∧ Arr K2 x (c0 ++ cs) fun _ => False := by
 by_cases h0 : n = 0
 ·subst h0
  have hc : cs = [] := List.eq_nil_of_length_eq_zero (by omega)
  subst hc
  refine ⟨y, true, K, ?_, Chg.refl K, .inl rfl, by rw [List.append_nil]; exact hy⟩
  unfold appendF appendA
  simp only [hs]
  rfl
 ·have e2 : n.beq 0 = false := nbf h0
  have hld : loadA K y 0 (k * s) = some c0 := hy.rd.load hc0
  refine ⟨K.next, false, K.newRow (c0 ++ cs), ?_, Chg.newRow K _, .inr rfl, Arr.newRow K _ _⟩
  unfold appendF appendA
  simp only [hs, e2, cond_false, Nat.ble_eq_true_of_le hb, Nat.ble_eq_true_of_le hm, Bool.and_self, cond_true, Nat.beq_refl, hld]
theorem append_two {α : Type} {enc : α → List AV} {ok : α → Prop} {H0 K : AHeap} {s bytes : Nat} {xs : List α} {v : AV} (hv : SlE (EncE enc ok) s H0 xs [v]) (sK : Sm H0 K) {a : α} (ha : ok a) (hs : (enc a).length = s) (hbt : (xs.length + 1) * bytes ≤ 140737488355328) (hm : xs.length + 1 ≤ 140737488355328) :
  ∃ w K2 z K3, appendF (K.newRow []) s bytes false (.slice (some (K.next, 0)) s 0 true) v = some (w, K2) ∧ appendF (K2.newRow (enc a)) s bytes false w (.slice (some (K2.next, 0)) s 1 true) = some (.slice (some (z, 0)) s (xs.length + 1) false, K3) ∧ Sm K K2 ∧ Sm K K3 ∧ (∃ p q r, w = .slice p q xs.length r) ∧ K.next ≤ z ∧ St H0 K.next K3 fun G => SlE (EncE enc ok) s G (xs ++ [a]) [.slice (some (z, 0)) s (xs.length + 1) false] := by
 have s1 := Chg.newRow K []
 have a0 := Arr.newRow K [] fun _ => False
 have hn1 : (K.newRow []).next = K.next + 1 := rfl
 generalize K.newRow [] = K1 at s1 a0 hn1
 obtain ⟨p, s0, cl0, rfl, -⟩ := hv.shape
 obtain ⟨cs, q1, q2, q3⟩ := SlE.row MonoE.enc (MonoE.enc.sl _ _ _ _ hv (sK.trans s1))
 have hb1 : xs.length * bytes ≤ (xs.length + 1) * bytes := Nat.mul_le_mul_right _ (by omega)
 obtain ⟨x, cl, K2, e1, s2, hx, a2⟩ := append_own (bytes := bytes) a0 q1 q2 (by omega) (by omega)
 have n12 := s2.1
 have gx : Gx K2 s (.slice (some (x, 0)) s xs.length cl) xs.length cs fun z => K.next ≤ z ∧ z < K2.next := by
  obtain ⟨y1, c, par, y2, y3, y4⟩ := a2
  exact ⟨q2, x, cl, rfl, ⟨by omega, y1⟩, y1, c, par, y2, y3, fun z hz => (y4 z hz).elim⟩
 obtain ⟨K3, e2, n3, ch, g3⟩ := gx.push (bytes := bytes) (fun z hz => hz.2) hs hbt hm
 have hub : ∀ z, ub (.slice (some (x, 0)) s xs.length cl) = some z → K.next ≤ z := fun z hz => by
  cases cl with
  | true => cases hz
  | false => cases hz; omega
 have s13 : Sm K K3 := Sm.of (by omega) fun z hz => by rw [ch.keep (by omega) (fun e => by have := hub z e; omega), s2.gt (by omega), s1.gt hz]
 have hl2 : (xs ++ [a]).length = xs.length + 1 := by simp
 have hmx : xs.length + 1 ≤ maxLen := Nat.le_trans hm (by decide)
 obtain ⟨hl3, y, cl3, he3, hp3, a3⟩ := g3
 cases he3
 refine ⟨_, K2, _, K3, e1, e2, s1.trans s2, s13, ⟨_, _, _, rfl⟩, by omega, ?_⟩
 refine (a3.rd.stE (lo := K.next) (xs := xs ++ [a]) (by omega) (by rw [hl2]) (by rw [List.length_append, q2, hs, hl2, Nat.add_mul, Nat.one_mul]) (by rw [hl2]; exact hmx) fun j hj => St.of fun G _ => ?_)
 by_cases hlt : j < xs.length
 ·have hle : (j + 1) * s ≤ xs.length * s := Nat.mul_le_mul_right s (by omega)
  rw [Nat.add_mul, Nat.one_mul] at hle
  rw [List.drop_append_of_le_length (by omega), List.take_append_of_le_length (by simp; omega), List.getElem_append_left hlt]
  exact q3 j hlt
 ·obtain rfl : j = xs.length := by omega
  rw [← q2, List.drop_left, List.take_of_length_le (by omega), List.getElem_append_right (Nat.le_refl _)]
  simp only [Nat.sub_self, List.getElem_cons_zero]
  exact ⟨rfl, ha⟩
theorem OU.st1 {H0 : AHeap} {u : UUnit} {K K' : AHeap} {n1 n2 n3 n4 x1 x2 x3 x4 : Nat} {c1 c2 c3 c4 : Bool} {k1 k2 k3 k4 : List AV} (h : OU H0 u K n1 n2 n3 n4 x1 x2 x3 x4 c1 c2 c3 c4 k1 k2 k3 k4) (hn : K.next ≤ K'.next) (hg : K'.get x1 = K.get x1) : St H0 (H0.next + 2) K' fun G => SlE StE 1 G u.names [.slice (some (x1, 0)) 1 n1 c1] :=
 (h.r1.keep hn hg).st MonoE.enc h.l1 h.e1
theorem OU.st2 {H0 : AHeap} {u : UUnit} {K K' : AHeap} {n1 n2 n3 n4 x1 x2 x3 x4 : Nat} {c1 c2 c3 c4 : Bool} {k1 k2 k3 k4 : List AV} (h : OU H0 u K n1 n2 n3 n4 x1 x2 x3 x4 c1 c2 c3 c4 k1 k2 k3 k4) (hn : K.next ≤ K'.next) (hg : K'.get x2 = K.get x2) : St H0 (H0.next + 2) K' fun G => SlE ClE 4 G u.classes [.slice (some (x2, 0)) 4 n2 c2] :=
 (h.r2.keep hn hg).st MonoE.cl (by have := h.l1; have := h.l2; omega) h.e2
theorem OU.st3 {H0 : AHeap} {u : UUnit} {K K' : AHeap} {n1 n2 n3 n4 x1 x2 x3 x4 : Nat} {c1 c2 c3 c4 : Bool} {k1 k2 k3 k4 : List AV} (h : OU H0 u K n1 n2 n3 n4 x1 x2 x3 x4 c1 c2 c3 c4 k1 k2 k3 k4) (hn : K.next ≤ K'.next) (hg : K'.get x3 = K.get x3) : St H0 (H0.next + 2) K' fun G => SlE MeE 4 G u.methods [.slice (some (x3, 0)) 4 n3 c3] :=
 (h.r3.keep hn hg).st MonoE.me (by have := h.l1; have := h.l2; have := h.l3; omega) h.e3
theorem OU.st4 {H0 : AHeap} {u : UUnit} {K K' : AHeap} {n1 n2 n3 n4 x1 x2 x3 x4 : Nat} {c1 c2 c3 c4 : Bool} {k1 k2 k3 k4 : List AV} (h : OU H0 u K n1 n2 n3 n4 x1 x2 x3 x4 c1 c2 c3 c4 k1 k2 k3 k4) (hn : K.next ≤ K'.next) (hg : K'.get x4 = K.get x4) : St H0 (H0.next + 2) K' fun G => SlE ObE 2 G u.objects [.slice (some (x4, 0)) 2 n4 c4] :=
 (h.r4.keep hn hg).st MonoE.ob (by have := h.l1; have := h.l2; have := h.l3; have := h.l4; omega) h.e4
def FinR (H0 K' : AHeap) (u' : UUnit) (vs : List AV) : Prop := loadA K' H0.next 0 5 = some vs ∧ ∃ K'', storeA K' (H0.next + 1) 0 vs = some K'' ∧ loadA K'' (H0.next + 1) 0 5 = some vs ∧ UnE K'' u' vs ∧ Sm H0 K''
theorem OU.fin {H0 : AHeap} {u : UUnit} {K K' : AHeap} {n1 n2 n3 n4 x1 x2 x3 x4 : Nat} {c1 c2 c3 c4 : Bool} {k1 k2 k3 k4 : List AV} (h : OU H0 u K n1 n2 n3 n4 x1 x2 x3 x4 c1 c2 c3 c4 k1 k2 k3 k4) {x : Nat} (hx : x = x2 ∨ x = x3 ∨ x = x4) (hn : K.next ≤ K'.next) (hg : ∀ z, z < K.next → z ≠ x → K'.get z = K.get z) {cs : List UClass} {ms : List UMethod} {os : List UObj}
  (t2 : St H0 (H0.next + 2) K' fun G => SlE ClE 4 G cs [.slice (some (x2, 0)) 4 n2 c2]) (t3 : St H0 (H0.next + 2) K' fun G => SlE MeE 4 G ms [.slice (some (x3, 0)) 4 n3 c3]) (t4 : St H0 (H0.next + 2) K' fun G => SlE ObE 2 G os [.slice (some (x4, 0)) 2 n4 c4]) :
  FinR H0 K' ⟨u.names, cs, ms, os, u.main⟩ [.slice (some (x1, 0)) 1 n1 c1, .slice (some (x2, 0)) 4 n2 c2, .slice (some (x3, 0)) 4 n3 c3, .slice (some (x4, 0)) 2 n4 c4, .int .i64 u.main] := by
 have q1 := h.l1; have q2 := h.l2; have q3 := h.l3; have q4 := h.l4
 have y1 := h.r1.a.1; have y2 := h.box.1; have y3 := h.res.1
 have hs := h.sm.1
 have sm : Sm H0 K' := Sm.of (by omega) fun z hz => by rw [hg z (by omega) (by omega), h.sm.gt hz]
 refine fin_unit (Nat.le_refl _) sm (h.box.keep hn (hg _ (by omega) (by omega))) (h.res.keep hn (hg _ (by omega) (by omega))) rfl fun G a b c => ?_
 exact ⟨_, _, _, _, rfl, h.mn, h.st1 hn (hg _ y1 (by omega)) G a b c, t2 G a b c, t3 G a b c, t4 G a b c⟩
theorem chunk_set2 {cs : List AV} {i j : Nat} (hi : i * 2 + 2 ≤ cs.length) (a b : AV) : ((setAt cs (i * 2) [a, b]).drop (j * 2)).take 2 = if j = i then [a, b] else (cs.drop (j * 2)).take 2 := by
 refine List.ext_getElem? fun k => ?_
 rw [List.getElem?_take, List.getElem?_drop, Go.Proofs.YtbbjlbdmjikhbaaGreatDoor.AA.setAt_get _ _ _ (by simp; omega)]
 simp only [List.length_cons, List.length_nil]
 by_cases hji : j = i
 ·subst hji
  rw [if_pos rfl]
  by_cases hk : k < 2
  ·rw [if_pos hk, if_pos (by omega), show j * 2 + k - j * 2 = k by omega]
  ·rw [if_neg hk]
   rw [List.getElem?_eq_none (by simp; omega)]
 ·rw [if_neg hji, List.getElem?_take, List.getElem?_drop]
  by_cases hk : k < 2
  ·rw [if_pos hk, if_pos hk, if_neg (by omega)]
  ·rw [if_neg hk, if_neg hk]
theorem setAt_len2 {cs : List AV} {p : Nat} (hp : p + 2 ≤ cs.length) (a b : AV) : (setAt cs p [a, b]).length = cs.length := by
 unfold setAt; simp; omega
theorem and_le (a M : Int) (h0 : 0 ≤ M) (hm : M < 4611686018427387904) : ∃ v : Nat, (v : Int) ≤ M ∧ IntKind.i64.wrap ((BitVec.ofInt IntKind.i64.bits a &&& BitVec.ofInt IntKind.i64.bits M).toNat : Int) = (v : Int) := by
 have e1 : ((BitVec.ofInt IntKind.i64.bits a &&& BitVec.ofInt IntKind.i64.bits M).toNat : Int) ≤ M := by
  show ((BitVec.ofInt 64 a &&& BitVec.ofInt 64 M).toNat : Int) ≤ M
  rw [BitVec.toNat_and]
  have := Nat.and_le_right (n := (BitVec.ofInt 64 a).toNat) (m := (BitVec.ofInt 64 M).toNat)
  have e2 : (BitVec.ofInt 64 M).toNat = M.toNat := by rw [BitVec.toNat_ofInt]; omega
  omega
 exact ⟨(BitVec.ofInt IntKind.i64.bits a &&& BitVec.ofInt IntKind.i64.bits M).toNat, e1, wrap64 (by omega) (by omega)⟩
end Go.Proofs.YtbbjlbdmjikhbaaGreatDoor.AA
