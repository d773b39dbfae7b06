/- What is built is right. -/
import Derived.Test.YtojeldemfccilaaGreatDoorKImgE
set_option linter.unusedSimpArgs false
set_option linter.unusedVariables false
namespace Go.Proofs.YtojeldemfccilaaGreatDoor.AA
open Go Go.RowKit
set_option maxRecDepth 100000
set_option maxHeartbeats 4000000
structure ClF (l : List UClass) : Prop where
  n3 : 3 ≤ l.length
  n5 : l.length ≤ 5
  c0 : clAt l 0 = ⟨[66, 108, 111, 99, 107], -1, 4, []⟩
  c1 : clAt l 1 = ⟨[65, 114, 114, 97, 121], -1, 0, []⟩
  c : ∀ j : Nat, 2 ≤ j → j < l.length → (clAt l j).name = [67, 48 + (j - 2)] ∧ 0 ≤ (clAt l j).fields ∧ (clAt l j).fields ≤ 3 + 2 * ((j : Int) - 2) ∧ ((clAt l j).super = -1 ∨ (2 ≤ (clAt l j).super ∧ (clAt l j).super < j ∧ (clAt l (clAt l j).super).fields ≤ (clAt l j).fields))
theorem clsOk.clf : ∀ {n : Nat} {l : List UClass}, clsOk l n → clAt l 0 = ⟨[66, 108, 111, 99, 107], -1, 4, []⟩ ∧ clAt l 1 = ⟨[65, 114, 114, 97, 121], -1, 0, []⟩ ∧ ∀ j : Nat, 2 ≤ j → j < l.length → (clAt l j).name = [67, 48 + (j - 2)] ∧ 0 ≤ (clAt l j).fields ∧ (clAt l j).fields ≤ 3 + 2 * ((j : Int) - 2) ∧ ((clAt l j).super = -1 ∨ (2 ≤ (clAt l j).super ∧ (clAt l j).super < j ∧ (clAt l (clAt l j).super).fields ≤ (clAt l j).fields))
  | 0, l, h => by
    rw [show l = cls0 from h]
    refine ⟨rfl, rfl, fun j h2 hj => ?_⟩
    simp [cls0] at hj; omega
  | n + 1, l, ⟨l', c, e, h, hs⟩ => by
    have hlen := h.len
    obtain ⟨h0, h1, hc⟩ := h.clf
    subst e
    refine ⟨by rw [clAt_app (by omega) (by omega)]; exact h0, by rw [clAt_app (by omega) (by omega)]; exact h1, fun j h2 hj => ?_⟩
    by_cases hlt : j < l'.length
    · rw [clAt_app (l := l') (c := c) (j := (j : Int)) (by omega) (by omega)]
      obtain ⟨k1, k2, k3, k4⟩ := hc j h2 hlt
      refine ⟨k1, k2, k3, ?_⟩
      rcases k4 with k4 | ⟨k4, k5, k6⟩
      · exact .inl k4
      · exact .inr ⟨k4, k5, by rw [clAt_app (by omega) (by omega)]; exact k6⟩
    · have hj' : j = l'.length := by simp at hj; omega
      have e1 : clAt (l' ++ [c]) (j : Int) = c := by
        rw [hj', clAt, Int.toNat_natCast, List.getD_eq_getElem?_getD, List.getElem?_append_right (Nat.le_refl _)]; simp
      rw [e1]
      obtain ⟨s1, s2, s3, -, s5⟩ := hs
      refine ⟨by rw [s1, show n = j - 2 by omega], s2, by omega, ?_⟩
      rcases s5 with s5 | ⟨s5, s6, s7⟩
      · exact .inl s5
      · exact .inr ⟨s5, by omega, by rw [clAt_app (by omega) (by omega)]; exact s7⟩
theorem chain_le {l : List UClass} (h : ∀ k : Nat, k < l.length → (clAt l k).super < k) : ∀ (n : Nat) (i : Int), (chainN n l i).length ≤ (i + 1).toNat
  | 0, i => by simp [chainN]
  | n + 1, i => by
    unfold chainN
    split
    · next hi =>
      obtain ⟨k, rfl⟩ : ∃ k : Nat, i = (k : Int) := ⟨i.toNat, by omega⟩
      have h1 := h k (by omega)
      have h2 := chain_le h n (clAt l (k : Int)).super
      simp only [List.length_cons]; omega
    · simp
structure TC (u : List UClass) (l : List UClass) (S : Nat → Nat → Bool) : Prop where
  f : ClF l
  n : u.length = l.length
  e : ∀ j : Nat, j < l.length → clAt u j = ⟨(clAt l j).name, (clAt l j).super, (clAt l j).fields, if j = 0 then [] else selS (S j) 6⟩
def sel6 (b0 b1 b2 b3 b4 b5 : Bool) : List Pr2 := (((((([] ++ if b0 then [(0, 0)] else []) ++ if b1 then [(1, 1)] else []) ++ if b2 then [(2, 2)] else []) ++ if b3 then [(3, 3)] else []) ++ if b4 then [(4, 4)] else []) ++ if b5 then [(5, 5)] else [])
theorem selS_6 (S : Nat → Bool) : selS S 6 = sel6 (S 0) (S 1) (S 2) (S 3) (S 4) (S 5) := rfl
theorem sel6_b : ∀ b0 b1 b2 b3 b4 b5 : Bool, bindsP (sel6 b0 b1 b2 b3 b4 b5) 6 9 = true := by decide +kernel
theorem sel6_d : ∀ b0 b1 b2 b3 b4 b5 : Bool, dictP (sel6 b0 b1 b2 b3 b4 b5) = true := by decide +kernel
theorem selS_mem {S : Nat → Bool} : ∀ {n : Nat} {b : Pr2}, b ∈ selS S n → ∃ j : Nat, j < n ∧ b = ((j : Int), (j : Int))
  | 0, b, h => by simp [selS] at h
  | n + 1, b, h => by
    rw [selS] at h
    rcases List.mem_append.1 h with h | h
    · obtain ⟨j, h1, h2⟩ := selS_mem h
      exact ⟨j, by omega, h2⟩
    · split at h
      · exact ⟨n, by omega, by simpa using h⟩
      · simp at h
theorem TC.sup {u l : List UClass} {S : Nat → Nat → Bool} (h : TC u l S) : ∀ k : Nat, k < u.length → (clAt u k).super < k := fun k hk => by
  have hk' : k < l.length := by rw [← h.n]; exact hk
  rw [h.e k hk']
  show (clAt l k).super < k
  rcases (by omega : k = 0 ∨ k = 1 ∨ 2 ≤ k) with rfl | rfl | h2
  · rw [show ((0 : Nat) : Int) = 0 from rfl, h.f.c0]; decide
  · rw [show ((1 : Nat) : Int) = 1 from rfl, h.f.c1]; decide
  · obtain ⟨-, -, -, h4⟩ := h.f.c k h2 hk'
    omega
theorem TC.name {u l : List UClass} {S : Nat → Nat → Bool} (h : TC u l S) {k : Nat} (hk : k < l.length) : (clAt u k).name = if k = 0 then [66, 108, 111, 99, 107] else if k = 1 then [65, 114, 114, 97, 121] else [67, 48 + (k - 2)] := by
  rw [h.e k hk]
  show (clAt l k).name = _
  rcases (by omega : k = 0 ∨ k = 1 ∨ 2 ≤ k) with rfl | rfl | h2
  · rw [show ((0 : Nat) : Int) = 0 from rfl, h.f.c0]; rfl
  · rw [show ((1 : Nat) : Int) = 1 from rfl, h.f.c1]; rfl
  · rw [(h.f.c k h2 hk).1, if_neg (by omega), if_neg (by omega)]
theorem TC.superP {u l : List UClass} {S : Nat → Nat → Bool} (h : TC u l S) {k : Nat} (hk : k < l.length) : superP u k = true := by
  have e := h.e k hk
  have hs := h.sup
  unfold Go.Proofs.YtojeldemfccilaaGreatDoor.AA.superP
  have n5 := h.f.n5
  rcases (by omega : k = 0 ∨ k = 1 ∨ 2 ≤ k) with rfl | rfl | h2
  · rw [show ((0 : Nat) : Int) = 0 from rfl] at e ⊢
    rw [e, h.f.c0]; rfl
  · rw [show ((1 : Nat) : Int) = 1 from rfl] at e ⊢
    rw [e, h.f.c1]; rfl
  · obtain ⟨-, c1, c2, c3⟩ := h.f.c k h2 hk
    rw [e]
    dsimp only
    generalize hsu : (clAt l (k : Int)).super = su at *
    generalize hff : (clAt l (k : Int)).fields = ff at *
    have h1 : 0 ≤ ff ∧ ff ≤ 62 ∧ -1 ≤ su ∧ su < (k : Int) := by omega
    rw [decide_eq_true h1, Bool.true_and]
    rcases c3 with c3 | ⟨c3, c4, c5⟩
    · rw [decide_eq_true c3, Bool.true_or]
    · have hch : (chainP u su).length < 8 := by
        have := chain_le hs 8 su
        unfold chainP; omega
      obtain ⟨q, rfl⟩ : ∃ q : Nat, su = (q : Int) := ⟨su.toNat, by omega⟩
      have eq := h.e q (by omega)
      rw [decide_eq_true hch, Bool.true_and, eq]
      dsimp only
      rw [decide_eq_true c5, Bool.or_true]
theorem TC.at0 {u l : List UClass} {S : Nat → Nat → Bool} (h : TC u l S) {k : Nat} (hk : k < l.length) : classAt u 6 9 k = 0 := by
  have hn := h.name hk
  have hb : bindsP (clAt u k).binds 6 9 = true := by
    rw [h.e k hk]
    show bindsP (if k = 0 then [] else selS (S k) 6) 6 9 = true
    split
    · rfl
    · rw [selS_6]; exact sel6_b _ _ _ _ _ _
  have n5 := h.f.n5
  have hnm : (decide ((clAt u k).name.length < 1) || decide (16 < (clAt u k).name.length) || (u.take k).any fun x => x.name == (clAt u k).name) = false := by
    have h1 : decide ((clAt u k).name.length < 1) = false := by rw [hn]; split; rfl; split <;> rfl
    have h2 : decide (16 < (clAt u k).name.length) = false := by rw [hn]; split; rfl; split <;> rfl
    rw [h1, h2, Bool.false_or, Bool.false_or, List.any_eq_false]
    intro x hx
    obtain ⟨j, hj, rfl⟩ := List.mem_iff_getElem.1 hx
    have hj1 : j < k := by rw [List.length_take] at hj; omega
    have hj2 : j < u.length := by rw [h.n]; omega
    rw [List.getElem_take, show u[j] = clAt u j from (clAt_nat hj2).symm, h.name (by omega : j < l.length), hn]
    rcases (by omega : j = 0 ∨ j = 1 ∨ 2 ≤ j) with rfl | rfl | h3
    · rcases (by omega : k = 1 ∨ 2 ≤ k) with rfl | h4
      · decide
      · rw [if_pos rfl, if_neg (by omega), if_neg (by omega)]; simp
    · rw [if_neg (by omega), if_pos rfl, if_neg (by omega), if_neg (by omega)]; simp
    · rw [if_neg (by omega), if_neg (by omega), if_neg (by omega), if_neg (by omega)]
      simp; omega
  unfold classAt
  rw [hnm, h.superP hk, hb]
  rfl
theorem firstBad_0 {n : Nat} {f : Nat → Int} (h : ∀ i, i < n → f i = 0) : firstBad n f = 0 := by
  have : (List.range n).find? (fun i => f i != 0) = none := List.find?_eq_none.2 fun i hi => by rw [h i (List.mem_range.1 hi)]; decide
  unfold firstBad
  rw [this]
theorem TC.shape {u l : List UClass} {S : Nat → Nat → Bool} (h : TC u l S) : shapeP u 6 9 = 0 := by
  have n3 := h.f.n3; have n5 := h.f.n5; have hn := h.n
  have e0 := h.e 0 (by omega)
  have e1 := h.e 1 (by omega)
  rw [show ((0 : Nat) : Int) = 0 from rfl, h.f.c0] at e0
  rw [show ((1 : Nat) : Int) = 1 from rfl, h.f.c1] at e1
  unfold shapeP
  rw [if_neg (by omega), e0, e1, if_neg (by simp)]
  exact firstBad_0 fun i hi => h.at0 (by omega)
set_option maxHeartbeats 4000000
theorem flatI_get : ∀ (l : List In2) (i : Nat) (hi : i < l.length), (flatI l).getD (2 * i) 0 = l[i].1 ∧ (flatI l).getD (2 * i + 1) 0 = l[i].2
  | p :: l, 0, _ => ⟨rfl, rfl⟩
  | p :: l, i + 1, hi => by
    have := flatI_get l i (by simpa using hi)
    have e : flatI (p :: l) = p.1 :: p.2 :: flatI l := rfl
    rw [e, show 2 * (i + 1) = 2 * i + 1 + 1 by omega, show 2 * i + 1 + 1 + 1 = (2 * i + 1) + 1 + 1 from rfl]
    exact this
theorem okL.at : ∀ {l : List In2}, okL l → ∀ (i : Nat) (hi : i < l.length), okOne l[i].1 l[i].2 (l.length - (i + 1))
  | p :: l, h, 0, _ => by
    simp only [List.length_cons]
    exact h.1
  | p :: l, h, i + 1, hi => by
    have := okL.at h.2 i (by simpa using hi)
    simp only [List.length_cons, List.getElem_cons_succ]
    rw [show l.length + 1 - (i + 1 + 1) = l.length - (i + 1) by omega]
    exact this
theorem litsOk.at {size : Int} {xs : List Pr2} (h : litsOk size xs) {i : Nat} (hi : i < 14) : (i < 4 → (xs.getD i (0, 0)).1 = 3 ∧ -1073741824 ≤ (xs.getD i (0, 0)).2 ∧ (xs.getD i (0, 0)).2 ≤ 1073741823) ∧ (4 ≤ i → i < 10 → (xs.getD i (0, 0)).1 = 5 ∧ 0 ≤ (xs.getD i (0, 0)).2 ∧ (xs.getD i (0, 0)).2 < 6) ∧ (10 ≤ i → i < 12 → (xs.getD i (0, 0)).1 = 6 ∧ 2 ≤ (xs.getD i (0, 0)).2 ∧ (xs.getD i (0, 0)).2 < size) ∧ (12 ≤ i → (xs.getD i (0, 0)).1 = 7 ∧ 0 ≤ (xs.getD i (0, 0)).2 ∧ (xs.getD i (0, 0)).2 < 9) := by
  obtain ⟨A, C, hA, nA, hC, cC, rfl⟩ := h
  obtain ⟨a0, a1, a2, a3, rfl⟩ : ∃ a0 a1 a2 a3, A = [a0, a1, a2, a3] := by
    match A, hA with
    | [a0, a1, a2, a3], _ => exact ⟨a0, a1, a2, a3, rfl⟩
  obtain ⟨c0, c1, rfl⟩ : ∃ c0 c1, C = [c0, c1] := by
    match C, hC with
    | [c0, c1], _ => exact ⟨c0, c1, rfl⟩
  have h0 := nA a0 (by simp)
  have h1 := nA a1 (by simp)
  have h2 := nA a2 (by simp)
  have h3 := nA a3 (by simp)
  have k0 := cC c0 (by simp)
  have k1 := cC c1 (by simp)
  have e : [a0, a1, a2, a3] ++ selL 6 ++ [c0, c1] ++ [((7 : Int), (7 : Int)), (7, 8)] = [a0, a1, a2, a3, (5, 0), (5, 1), (5, 2), (5, 3), (5, 4), (5, 5), c0, c1, (7, 7), (7, 8)] := rfl
  rw [e]
  rcases (by omega : i = 0 ∨ i = 1 ∨ i = 2 ∨ i = 3 ∨ i = 4 ∨ i = 5 ∨ i = 6 ∨ i = 7 ∨ i = 8 ∨ i = 9 ∨ i = 10 ∨ i = 11 ∨ i = 12 ∨ i = 13) with rfl | rfl | rfl | rfl | rfl | rfl | rfl | rfl | rfl | rfl | rfl | rfl | rfl | rfl <;>
    simp only [List.getD_cons_succ, List.getD_cons_zero] <;> refine ⟨fun _ => ?_, fun _ _ => ?_, fun _ _ => ?_, fun _ => ?_⟩ <;> first | omega | assumption | decide
theorem methOk.right {u : UUnit} {args : Int} {m : UMethod} (h : methOk u.classes.length args m) (ha : 0 ≤ args ∧ args ≤ 2) (hn : u.names.length = 6) (hm : u.methods.length = 9) : methodP u m = 0 := by
  obtain ⟨h1, h2, h3, l, e, h4, h5, h6, h7⟩ := h
  have hl := h3.len
  have hcl : m.code.length = 2 * (l.length + 1) := by rw [h4, flatI_len, List.length_append]; rfl
  have hsh : shortP m = true := decide_eq_true (by omega)
  have hget : ∀ i (hi : i < (l ++ [(e, 0)]).length), m.code.getD (2 * i) 0 = (l ++ [(e, 0)])[i].1 ∧ m.code.getD (2 * i + 1) 0 = (l ++ [(e, 0)])[i].2 := by rw [h4]; exact flatI_get _
  have hll : (l ++ [(e, 0)]).length = l.length + 1 := by simp
  have hen : endsP m = true := by
    have := (hget l.length (by omega)).1
    rw [List.getElem_append_right (Nat.le_refl _)] at this
    simp only [Nat.sub_self, List.getElem_cons_zero] at this
    refine decide_eq_true ⟨by omega, by omega, ?_⟩
    rw [hcl, show 2 * (l.length + 1) - 2 = 2 * l.length by omega, this]
    omega
  have hli : m.lits.all (litP u) = true := by
    refine List.all_eq_true.2 fun v hv => ?_
    obtain ⟨i, hi, rfl⟩ := List.mem_iff_getElem.1 hv
    have := h3.at (i := i) (by omega)
    rw [List.getD_eq_getElem?_getD, List.getElem?_eq_getElem hi, Option.getD_some] at this
    obtain ⟨k1, k2, k3, k4⟩ := this
    unfold litP
    rcases (by omega : i < 4 ∨ (4 ≤ i ∧ i < 10) ∨ (10 ≤ i ∧ i < 12) ∨ 12 ≤ i) with hq | hq | hq | hq
    · have k := k1 hq
      rw [if_pos k.1]; exact decide_eq_true k.2
    · have k := k2 hq.1 hq.2
      rw [if_neg (by omega), if_pos k.1]; exact decide_eq_true (by omega)
    · have k := k3 hq.1 hq.2
      rw [if_neg (by omega), if_neg (by omega), if_pos k.1]; exact decide_eq_true (by omega)
    · have k := k4 hq
      rw [if_neg (by omega), if_neg (by omega), if_neg (by omega), if_pos k.1]; exact decide_eq_true (by omega)
  have hlit : ∀ i : Nat, ∀ k : Int, i < 14 → (m.lits.getD i (0, 0)).1 = k → litAt m i k = true := fun i k hi hk => by
    unfold litAt
    rw [hk, decide_eq_true (by omega : i < m.lits.length)]
    simp
  have hco : codeP m = true := by
    refine List.all_eq_true.2 fun i hi => ?_
    have hi' : i < l.length + 1 := by have := List.mem_range.1 hi; omega
    have hat := h5.at i (by omega)
    obtain ⟨g1, g2⟩ := hget i (by omega)
    unfold codeAt
    rw [g1, g2]
    generalize (l ++ [(e, 0)])[i].1 = op at *
    generalize (l ++ [(e, 0)])[i].2 = arg at *
    obtain ⟨o1, o2, o3, o4, o5, o6, o7, o8, o9, o10⟩ := hat
    rw [hll] at o8
    unfold instP
    by_cases q1 : op = 0 ∨ op = 10
    · rw [if_pos q1]; have := o2 q1; exact decide_eq_true (by omega)
    rw [if_neg q1]
    by_cases q2 : op = 1 ∨ op = 11
    · rw [if_pos q2]; exact decide_eq_true (o3 q2)
    rw [if_neg q2]
    by_cases q3 : op = 2
    · rw [if_pos q3]; have := o4 q3; exact hlit _ _ (by omega) ((h3.at (i := arg) (by omega)).1 this).1
    rw [if_neg q3]
    by_cases q4 : op = 12 ∨ op = 13
    · rw [if_pos q4]; have := o5 q4; exact hlit _ _ (by omega) ((h3.at (i := arg) (by omega)).2.1 this.1 (by omega)).1
    rw [if_neg q4]
    by_cases q5 : op = 20
    · have := o6 q5
      have k := (h3.at (i := arg) (by omega)).2.2.1 this.1 (by omega)
      rw [if_pos q5, hlit _ _ (by omega) k.1, Bool.true_and]; exact decide_eq_true k.2.1
    rw [if_neg q5]
    by_cases q6 : op = 18
    · rw [if_pos q6]; have := o7 q6; exact hlit _ _ (by omega) ((h3.at (i := arg) (by omega)).2.2.2 this.1).1
    rw [if_neg q6]
    by_cases q7 : op = 15 ∨ op = 17
    · rw [if_pos q7]; have := o8 q7; exact decide_eq_true (by omega)
    rw [if_neg q7, if_neg o9]
    by_cases q8 : op = 21
    · rw [if_pos q8]; exact decide_eq_true (o10 q8)
    rw [if_neg q8]
    exact decide_eq_true o1
  unfold methodP
  rw [hsh, hen, hli, hco]
  rfl
structure TQ (u : UUnit) : Prop where
  n : u.names = nmsU
  m : u.main = 6
  c : ∃ l S, TC u.classes l S
  m9 : u.methods.length = 9
  ma : ∀ q, q < 9 → methOk u.classes.length (if q = 8 then 1 else argsK q) (mAt u q)
  o1 : 1 ≤ u.objects.length
  o5 : u.objects.length ≤ 5
  o : ∀ o, o ∈ u.objects → ((o.cls = 1 ∧ o.fields.length ≤ 8) ∨ (2 ≤ o.cls ∧ o.cls < u.classes.length ∧ (o.fields.length : Int) = (clAt u.classes o.cls).fields)) ∧ ∀ v, v ∈ o.fields → vOk u.objects.length v
theorem TU.tq {u : UUnit} (h : TU u) : TQ u := by
  obtain ⟨h1, h2, l, i, S, hi1, hi3, hok, hcl, hce, hm, hmo, ho1, ho5, hob⟩ := h
  have hlen := hok.len
  obtain ⟨f0, f1, fc⟩ := hok.clf
  have tc : TC u.classes l S := by
    refine ⟨⟨by omega, by omega, f0, f1, fc⟩, hcl, fun j hj => ?_⟩
    rw [clAt_nat hj, clAt_nat (by omega), hce j hj (by omega)]
  refine ⟨h1, h2, ⟨l, S, tc⟩, hm, fun q hq => ?_, ho1, ho5, fun o ho => ?_⟩
  · rw [mAt_nat (by omega), hcl]
    exact hmo q (by omega)
  · obtain ⟨k1, k2⟩ := hob o ho
    refine ⟨?_, k2⟩
    rcases k1 with k1 | ⟨k1, k3, k4⟩
    · exact .inl k1
    · refine .inr ⟨k1, by omega, ?_⟩
      obtain ⟨q, hq⟩ : ∃ q : Nat, o.cls = (q : Int) := ⟨o.cls.toNat, by omega⟩
      rw [hq] at k4 ⊢
      rw [tc.e q (by omega), k4]
theorem TQ.argsQ {u : UUnit} (h : TQ u) {q : Nat} (hq : q < 9) : (mAt u q).args = if q = 8 then 1 else argsK q := (h.ma q hq).1
theorem TC.bind {u l : List UClass} {S : Nat → Nat → Bool} (h : TC u l S) {c : UClass} (hc : c ∈ u) : c.binds = [] ∨ ∃ S, c.binds = selS S 6 := by
  obtain ⟨j, hj, rfl⟩ := List.mem_iff_getElem.1 hc
  rw [← clAt_nat hj, h.e j (by rw [← h.n]; exact hj)]
  dsimp only
  split
  · exact .inl rfl
  · exact .inr ⟨_, rfl⟩
theorem names_ok : namesP nmsU = true := by decide +kernel
theorem nms_args : ∀ j, j < 6 → argsP (nmsU.getD j []) = argsK j := by decide +kernel
theorem TQ.meths {u : UUnit} (h : TQ u) : methodsP u = 0 := by
  obtain ⟨l, S, tc⟩ := h.c
  have e1 : u.classes.any badDict = false := by
    refine List.any_eq_false.2 fun c hc => ?_
    have : dictP c.binds = true := by
      rcases tc.bind hc with e | ⟨S, e⟩
      · rw [e]; rfl
      · rw [e, selS_6]; exact sel6_d _ _ _ _ _ _
    simp [badDict, this]
  have e2 : firstBad u.methods.length (badMeth u) = 0 := firstBad_no fun j hj => by
    rw [h.m9] at hj
    refine (h.ma j hj).right ?_ (by rw [h.n]; rfl) h.m9
    have := argsK_le j
    split <;> omega
  have e3 : (u.classes.any fun c => c.binds.any (badBind u)) = false := by
    refine List.any_eq_false.2 fun c hc => ?_
    have : c.binds.any (badBind u) = false := by
      rcases tc.bind hc with e | ⟨S, e⟩
      · rw [e]; rfl
      · rw [e]
        refine List.any_eq_false.2 fun b hb => ?_
        obtain ⟨j, hj, rfl⟩ := selS_mem hb
        simp only [badBind, Int.toNat_natCast]
        rw [h.n, nms_args j hj, h.argsQ (by omega), if_neg (by omega)]
        simp
    simp [this]
  unfold methodsP
  rw [e1, e2, e3]
  rfl
theorem TQ.obj {u : UUnit} (h : TQ u) {o : UObj} (ho : o ∈ u.objects) : objP u o = true := by
  obtain ⟨l, S, tc⟩ := h.c
  have n3 := tc.f.n3; have n5 := tc.f.n5; have hn := tc.n
  obtain ⟨k1, k2⟩ := h.o o ho
  unfold objP
  rw [decide_eq_true, Bool.true_and]
  · refine List.all_eq_true.2 fun v hv => ?_
    unfold valP
    rcases k2 v hv with ⟨q1, q2⟩ | ⟨q1, q2⟩ | ⟨q1, q2⟩
    · rw [if_pos q1]; exact decide_eq_true q2
    · rw [if_neg (by omega), if_pos q1]; exact decide_eq_true (by omega)
    · rw [if_neg (by omega), if_neg (by omega), if_pos q1]; exact decide_eq_true q2
  · rcases k1 with ⟨q1, q2⟩ | ⟨q1, q2, q3⟩
    · exact ⟨by omega, by omega, by omega, fun h => by omega⟩
    · obtain ⟨q, hq⟩ : ∃ q : Nat, o.cls = (q : Int) := ⟨o.cls.toNat, by omega⟩
      have hs := tc.superP (k := q) (by omega)
      rw [hq] at q3
      unfold superP at hs
      have hs1 := (Bool.and_eq_true _ _ ▸ hs).1
      have hs2 := of_decide_eq_true hs1
      exact ⟨by omega, by omega, by omega, fun _ => by rw [hq]; exact q3⟩
theorem TQ.right {u : UUnit} (h : TQ u) : unitP u = 0 := by
  obtain ⟨l, S, tc⟩ := h.c
  have e1 : sizesP u = true := decide_eq_true ⟨by rw [h.n]; decide, by rw [h.m9]; decide, by rw [h.m9]; decide, h.o1, by have := h.o5; omega⟩
  have e2 : namesP u.names = true := by rw [h.n]; exact names_ok
  have e3 : shapeP u.classes u.names.length u.methods.length = 0 := by rw [h.n, h.m9]; exact tc.shape
  have e4 : u.objects.all (objP u) = true := List.all_eq_true.2 fun o ho => h.obj ho
  have e5 : mainP u = true := by
    unfold mainP
    rw [h.m, h.m9, show (6 : Int).toNat = 6 from rfl, h.argsQ (by omega)]; rfl
  unfold unitP
  rw [e1, e2, e3, h.meths, e4, e5]
  rfl
theorem TQ.bnd {u : UUnit} (h : TQ u) : BndU u := by
  obtain ⟨l, S, tc⟩ := h.c
  have n3 := tc.f.n3; have n5 := tc.f.n5; have hn := tc.n
  have hm : ∀ m, m ∈ u.methods → ∃ a, methOk u.classes.length a m := fun m hm => by
    obtain ⟨j, hj, rfl⟩ := List.mem_iff_getElem.1 hm
    have := h.ma j (by have := h.m9; omega)
    rw [mAt_nat hj] at this
    exact ⟨_, this⟩
  refine ⟨by rw [h.n]; decide, by omega, by rw [h.m9]; decide, by have := h.o5; omega, fun c hc => ?_, fun m hx => ?_, fun m hx => ?_, fun o ho => ?_⟩
  · rcases tc.bind hc with e | ⟨S, e⟩
    · rw [e]; decide
    · rw [e]; have := selS_len S 6; omega
  · obtain ⟨a, h1⟩ := hm m hx
    rw [h1.2.2.1.len]; decide
  · obtain ⟨a, -, -, -, l, e, h4, -, -, h7⟩ := hm m hx
    rw [h4, flatI_len, List.length_append, List.length_singleton]; omega
  · have hp := h.obj ho
    unfold objP at hp
    have hs2 := of_decide_eq_true (Bool.and_eq_true _ _ ▸ hp).1
    omega
end Go.Proofs.YtojeldemfccilaaGreatDoor.AA
