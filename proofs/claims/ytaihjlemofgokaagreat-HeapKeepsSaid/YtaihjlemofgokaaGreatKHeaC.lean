/- Rings and mills. -/
import Derived.Test.YtaihjlemofgokaaGreatKHeaB
set_option linter.unusedSimpArgs false
set_option linter.unusedVariables false
namespace Go.Proofs.YtaihjlemofgokaaGreat.AA
def Lnk (R : Int → Int → Prop) : List Int → Prop
  | [] => True
  | [_] => True
  | x :: y :: l => R x y ∧ Lnk R (y :: l)
theorem Lnk.split {R : Int → Int → Prop} {z : Int} {q : List Int} : ∀ {p : List Int}, Lnk R (p ++ z :: q) ↔ Lnk R (p ++ [z]) ∧ Lnk R (z :: q)
  | [] => by simp [Lnk]
  | [x] => by simp [Lnk]
  | x :: y :: p => by
    have := Lnk.split (R := R) (z := z) (q := q) (p := y :: p)
    simp only [List.cons_append, Lnk] at this ⊢
    rw [this, and_assoc]
theorem Lnk.mono {R R' : Int → Int → Prop} : ∀ {l : List Int}, (∀ p x y q, l = p ++ x :: y :: q → R x y → R' x y) → Lnk R l → Lnk R' l
  | [], _, _ => trivial
  | [_], _, _ => trivial
  | x :: y :: l, h, hl => ⟨h [] x y l rfl hl.1, Lnk.mono (fun p a b q e => h (x :: p) a b q (by rw [e]; rfl)) hl.2⟩
def hd1 (l : List Int) : List Int := l.take 1
def Rg (R : Int → Int → Prop) (l : List Int) : Prop := Lnk R (l ++ hd1 l)
theorem Rg.rot {R : Int → Int → Prop} {a b : List Int} (h : Rg R (a ++ b)) : Rg R (b ++ a) := by
  match a, b with
  | [], b => simpa using h
  | x :: a, [] => simpa using h
  | x :: a, y :: b =>
    have h1 : Lnk R ((x :: a) ++ y :: (b ++ [x])) := by simpa [Rg, hd1] using h
    obtain ⟨h2, h3⟩ := Lnk.split.1 h1
    have : Lnk R ((y :: b) ++ x :: (a ++ [y])) := Lnk.split.2 ⟨by simpa using h3, by simpa using h2⟩
    simpa [Rg, hd1] using this
def at' (l : List Int) (i : Int) : Int := l.getD i.toNat 0
structure Cyc (N : Nat) (nx pv : List Int) (l : List Int) : Prop where
  nl : nx.length = N
  pl : pv.length = N
  nd : l.Nodup
  inn : ∀ x, x ∈ l → 0 ≤ x ∧ x < N
  out : ∀ x : Int, 0 ≤ x → x < N → x ∉ l → at' nx x = -1
  rg : Rg (fun x y => at' nx x = y ∧ at' pv y = x) l
theorem Cyc.rot {N : Nat} {nx pv a b : List Int} (h : Cyc N nx pv (a ++ b)) : Cyc N nx pv (b ++ a) :=
  ⟨h.nl, h.pl, (List.perm_append_comm.nodup_iff).1 h.nd, fun x hx => h.inn x (by rw [List.mem_append] at hx ⊢; exact hx.symm), fun x h0 h1 hx => h.out x h0 h1 (fun e => hx (by rw [List.mem_append] at e ⊢; exact e.symm)), h.rg.rot⟩
theorem at'_set {l : List Int} {i j : Int} {v : Int} (hi : 0 ≤ i) (hj : 0 ≤ j) (hl : i < l.length) : at' (l.set i.toNat v) j = if j = i then v else at' l j := by
  unfold at'
  rw [List.getD_eq_getElem?_getD, List.getD_eq_getElem?_getD, List.getElem?_set]
  by_cases h : i.toNat = j.toNat
  · have e : j = i := by omega
    subst e
    have : j.toNat < l.length := by omega
    simp [this]
  · rw [if_neg h, if_neg (by intro e; exact h (by rw [e]))]
theorem Cyc.nxt {N : Nat} {nx pv p q : List Int} {x y : Int} (h : Cyc N nx pv (p ++ x :: y :: q)) : at' nx x = y ∧ at' pv y = x := by
  have : Lnk (fun x y => at' nx x = y ∧ at' pv y = x) (p ++ x :: (y :: (q ++ hd1 (p ++ x :: y :: q)))) := by simpa [Rg] using h.rg
  exact (Lnk.split.1 this).2.1
theorem Cyc.lst {N : Nat} {nx pv t : List Int} {x z : Int} (h : Cyc N nx pv (x :: t)) (hz : (x :: t).getLast? = some z) : at' nx z = x ∧ at' pv x = z := by
  obtain ⟨p, hp⟩ := List.getLast?_eq_some_iff.1 hz
  have : Rg (fun x y => at' nx x = y ∧ at' pv y = x) (x :: t) := h.rg
  unfold Rg at this
  have e : x :: t ++ hd1 (x :: t) = p ++ z :: [x] := by rw [hp]; simp [hd1]; rw [← hp]; simp
  rw [e] at this
  exact (Lnk.split.1 this).2.1
theorem Cyc.out1 {N : Nat} {nx pv t : List Int} {i p n : Int} (h : Cyc N nx pv (i :: t)) (hp : p = at' pv i) (hn : n = at' nx i) : Cyc N ((nx.set p.toNat n).set i.toNat (-1)) ((pv.set n.toNat p).set i.toNat (-1)) t ∧ (0 ≤ p ∧ p < N) ∧ (0 ≤ n ∧ n < N) := by
  have nd := h.nd
  obtain ⟨hit, ndt⟩ := List.nodup_cons.1 nd
  have hi := h.inn i (List.mem_cons_self ..)
  have nl := h.nl
  have pl := h.pl
  match t, h, hit, ndt with
  | [], h, hit, ndt =>
    obtain ⟨h1, h2⟩ := h.lst (x := i) (z := i) (by simp)
    rw [h1] at hn; rw [h2] at hp
    subst n; subst p
    refine ⟨⟨by simp [nl], by simp [pl], by simp, by simp, fun x h0 h1 _ => ?_, by simp [Rg, hd1, Lnk]⟩, hi, hi⟩
    rw [at'_set hi.1 h0 (by simp [nl]; omega)]
    by_cases e : x = i
    · rw [if_pos e]
    · rw [if_neg e, at'_set hi.1 h0 (by omega), if_neg e]
      exact h.out x h0 h1 (by simpa using e)
  | y :: t', h, hit, ndt =>
    have h1 : at' nx i = y ∧ at' pv y = i := Cyc.nxt (p := []) h
    rw [← hn] at h1
    obtain ⟨rfl, h1b⟩ := h1
    obtain ⟨z, hz⟩ : ∃ z, (n :: t').getLast? = some z := by
      cases hh : (n :: t').getLast? with
      | none => simp at hh
      | some z => exact ⟨z, rfl⟩
    have h2 := h.lst (x := i) (z := z) (by rw [List.getLast?_cons_cons]; exact hz)
    rw [← hp] at h2
    obtain ⟨h2a, rfl⟩ := h2
    have hzm : p ∈ n :: t' := List.mem_of_getLast? hz
    have hzb := h.inn p (List.mem_cons_of_mem _ hzm)
    have hnb := h.inn n (by simp)
    have hpi : p ≠ i := fun e => hit (e ▸ hzm)
    have hni : n ≠ i := fun e => hit (by rw [← e]; simp)
    have gn : ∀ x : Int, 0 ≤ x → at' ((nx.set p.toNat n).set i.toNat (-1)) x = if x = i then -1 else if x = p then n else at' nx x := fun x hx => by
      rw [at'_set hi.1 hx (by simp [nl]; omega), at'_set hzb.1 hx (by omega)]
    have gp : ∀ x : Int, 0 ≤ x → at' ((pv.set n.toNat p).set i.toNat (-1)) x = if x = i then -1 else if x = n then p else at' pv x := fun x hx => by
      rw [at'_set hi.1 hx (by simp [pl]; omega), at'_set hnb.1 hx (by omega)]
    refine ⟨⟨by simp [nl], by simp [pl], ndt, fun x hx => h.inn x (List.mem_cons_of_mem _ hx), fun x h0 h1 hx => ?_, ?_⟩, hzb, hnb⟩
    · rw [gn x h0]
      by_cases e : x = i
      · rw [if_pos e]
      · rw [if_neg e, if_neg (by intro e'; exact hx (e' ▸ hzm))]
        exact h.out x h0 h1 (by simp only [List.mem_cons, not_or]; exact ⟨e, by simpa using hx⟩)
    · obtain ⟨r, hr⟩ := List.getLast?_eq_some_iff.1 hz
      have hold : Lnk (fun x y => at' nx x = y ∧ at' pv y = x) (n :: t') := by
        have : Lnk (fun x y => at' nx x = y ∧ at' pv y = x) ([i] ++ n :: (t' ++ [i])) := by simpa [Rg, hd1] using h.rg
        have := (Lnk.split.1 this).2
        have e : n :: (t' ++ [i]) = r ++ p :: [i] := by
          have : n :: (t' ++ [i]) = (n :: t') ++ [i] := rfl
          rw [this, hr]; simp
        rw [e] at this
        rw [hr]
        exact (Lnk.split.1 this).1
      show Lnk _ (n :: t' ++ hd1 (n :: t'))
      have e : n :: t' ++ hd1 (n :: t') = r ++ p :: [n] := by rw [show hd1 (n :: t') = [n] from rfl, hr]; simp
      rw [e]
      refine Lnk.split.2 ⟨?_, ?_, trivial⟩
      · rw [← hr]
        refine Lnk.mono (fun a x y b hab hxy => ?_) hold
        have hx : x ∈ n :: t' := by rw [hab]; simp
        have hy : y ∈ n :: t' := by rw [hab]; simp
        have hxb := h.inn x (List.mem_cons_of_mem _ hx)
        have hyb := h.inn y (List.mem_cons_of_mem _ hy)
        have hxp : x ≠ p := by
          intro e
          subst e
          rw [hab] at hz ndt
          have hz' : (y :: b).getLast? = some x := by
            rw [show a ++ x :: y :: b = (a ++ [x]) ++ (y :: b) by simp, List.getLast?_append] at hz
            cases hh : (y :: b).getLast? with
            | none => simp at hh
            | some w => rw [hh] at hz; simpa using hz
          have hm : x ∈ y :: b := List.mem_of_getLast? hz'
          have := (List.nodup_append.1 ndt).2.1
          exact (List.nodup_cons.1 this).1 hm
        have hyn : y ≠ n := by
          intro e
          subst e
          cases a with
          | nil =>
            simp only [List.nil_append, List.cons.injEq] at hab
            obtain ⟨e1, e2⟩ := hab
            subst e1
            rw [e2] at ndt
            simp at ndt
          | cons a0 a =>
            simp only [List.cons_append, List.cons.injEq] at hab
            have := (List.nodup_cons.1 ndt).1
            exact this (by rw [hab.2]; simp)
        show at' _ x = y ∧ at' _ y = x
        rw [gn x hxb.1, gp y hyb.1, if_neg (by intro e; exact hit (e ▸ hx)), if_neg hxp, if_neg (by intro e; exact hit (e ▸ hy)), if_neg hyn]
        exact hxy
      · show at' _ p = n ∧ at' _ n = p
        rw [gn p hzb.1, gp n hnb.1, if_neg hpi, if_pos rfl, if_neg hni, if_pos rfl]
        exact ⟨rfl, rfl⟩
theorem Cyc.in1 {N : Nat} {nx pv t : List Int} {a i p : Int} (h : Cyc N nx pv (a :: t)) (hi : 0 ≤ i ∧ i < N) (hit : i ∉ a :: t) (hp : p = at' pv a) : Cyc N ((nx.set p.toNat i).set i.toNat a) ((pv.set a.toNat i).set i.toNat p) (a :: t ++ [i]) ∧ (0 ≤ p ∧ p < N) := by
  have nl := h.nl
  have pl := h.pl
  have ha := h.inn a (List.mem_cons_self ..)
  obtain ⟨z, hz⟩ : ∃ z, (a :: t).getLast? = some z := by
    cases hh : (a :: t).getLast? with
    | none => simp at hh
    | some z => exact ⟨z, rfl⟩
  have h2 := h.lst hz
  rw [← hp] at h2
  obtain ⟨h2a, rfl⟩ := h2
  have hzm : p ∈ a :: t := List.mem_of_getLast? hz
  have hzb := h.inn p hzm
  have hpi : p ≠ i := fun e => hit (e ▸ hzm)
  have hai : a ≠ i := fun e => hit (by rw [← e]; simp)
  have gn : ∀ x : Int, 0 ≤ x → at' ((nx.set p.toNat i).set i.toNat a) x = if x = i then a else if x = p then i else at' nx x := fun x hx => by
    rw [at'_set hi.1 hx (by simp [nl]; omega), at'_set hzb.1 hx (by omega)]
  have gp : ∀ x : Int, 0 ≤ x → at' ((pv.set a.toNat i).set i.toNat p) x = if x = i then p else if x = a then i else at' pv x := fun x hx => by
    rw [at'_set hi.1 hx (by simp [pl]; omega), at'_set ha.1 hx (by omega)]
  refine ⟨⟨by simp [nl], by simp [pl], ?_, fun x hx => ?_, fun x h0 h1 hx => ?_, ?_⟩, hzb⟩
  · rw [List.nodup_append]
    exact ⟨h.nd, by simp, fun x hx y hy => by
      obtain rfl : y = i := by simpa using hy
      exact fun e => hit (e ▸ hx)⟩
  · rcases List.mem_append.1 hx with hx | hx
    · exact h.inn x hx
    · obtain rfl : x = i := by simpa using hx
      exact hi
  · rw [List.mem_append, not_or] at hx
    rw [gn x h0, if_neg (by simpa using hx.2), if_neg (by intro e; exact hx.1 (e ▸ hzm))]
    exact h.out x h0 h1 hx.1
  · obtain ⟨r, hr⟩ := List.getLast?_eq_some_iff.1 hz
    have hold : Lnk (fun x y => at' nx x = y ∧ at' pv y = x) (a :: t) := by
      have : Lnk (fun x y => at' nx x = y ∧ at' pv y = x) (a :: t ++ [a]) := by simpa [Rg, hd1] using h.rg
      rw [hr, show r ++ [p] ++ [a] = r ++ p :: [a] by simp] at this
      rw [hr]
      exact (Lnk.split.1 this).1
    show Lnk _ (a :: t ++ [i] ++ hd1 (a :: t ++ [i]))
    have e : a :: t ++ [i] ++ hd1 (a :: t ++ [i]) = r ++ p :: [i, a] := by rw [show hd1 (a :: t ++ [i]) = [a] from rfl, hr]; simp
    rw [e]
    refine Lnk.split.2 ⟨?_, ?_, ?_, trivial⟩
    · rw [← hr]
      refine Lnk.mono (fun b x y c hab hxy => ?_) hold
      have hx : x ∈ a :: t := by rw [hab]; simp
      have hy : y ∈ a :: t := by rw [hab]; simp
      have hxb := h.inn x hx
      have hyb := h.inn y hy
      have nd := h.nd
      have hxp : x ≠ p := by
        intro e
        subst e
        rw [hab] at hz nd
        have hz' : (y :: c).getLast? = some x := by
          rw [show b ++ x :: y :: c = (b ++ [x]) ++ (y :: c) by simp, List.getLast?_append] at hz
          cases hh : (y :: c).getLast? with
          | none => simp at hh
          | some w => rw [hh] at hz; simpa using hz
        have hm : x ∈ y :: c := List.mem_of_getLast? hz'
        have := (List.nodup_append.1 nd).2.1
        exact (List.nodup_cons.1 this).1 hm
      have hya : y ≠ a := by
        intro e
        subst e
        cases b with
        | nil =>
          simp only [List.nil_append, List.cons.injEq] at hab
          obtain ⟨e1, e2⟩ := hab
          subst e1
          rw [e2] at nd
          simp at nd
        | cons b0 b =>
          simp only [List.cons_append, List.cons.injEq] at hab
          have := (List.nodup_cons.1 nd).1
          exact this (by rw [hab.2]; simp)
      show at' _ x = y ∧ at' _ y = x
      rw [gn x hxb.1, gp y hyb.1, if_neg (by intro e; exact hit (e ▸ hx)), if_neg hxp, if_neg (by intro e; exact hit (e ▸ hy)), if_neg hya]
      exact hxy
    · show at' _ p = i ∧ at' _ i = p
      rw [gn p hzb.1, gp i hi.1, if_neg hpi, if_pos rfl, if_pos rfl]
      exact ⟨rfl, rfl⟩
    · show at' _ i = a ∧ at' _ a = i
      rw [gn i hi.1, gp a ha.1, if_pos rfl, if_neg hai, if_pos rfl]
      exact ⟨rfl, rfl⟩
theorem Cyc.in0 {N : Nat} {nx pv : List Int} {i : Int} (h : Cyc N nx pv []) (hi : 0 ≤ i ∧ i < N) : Cyc N (nx.set i.toNat i) (pv.set i.toNat i) [i] := by
  have nl := h.nl
  have pl := h.pl
  refine ⟨by simp [nl], by simp [pl], by simp, by simpa using hi, fun x h0 h1 hx => ?_, ?_⟩
  · rw [at'_set hi.1 h0 (by omega), if_neg (by simpa using hx)]
    exact h.out x h0 h1 (by simp)
  · refine ⟨?_, trivial⟩
    show at' _ i = i ∧ at' _ i = i
    rw [at'_set hi.1 hi.1 (by omega), at'_set hi.1 hi.1 (by omega), if_pos rfl, if_pos rfl]
    exact ⟨rfl, rfl⟩
theorem nodup_len {α : Type} [DecidableEq α] : ∀ {l m : List α}, l.Nodup → (∀ x, x ∈ l → x ∈ m) → l.length ≤ m.length
  | [], _, _, _ => by simp
  | x :: l, m, hn, h => by
    obtain ⟨hx, hl⟩ := List.nodup_cons.1 hn
    have hm := h x (List.mem_cons_self ..)
    have := nodup_len (m := m.erase x) hl fun y hy => (List.mem_erase_of_ne (by rintro rfl; exact hx hy)).2 (h y (List.mem_cons_of_mem _ hy))
    rw [List.length_erase_of_mem hm] at this
    have : 0 < m.length := List.length_pos_of_mem hm
    simp only [List.length_cons]
    omega
theorem cells_le {N : Nat} {l : List Int} (hn : l.Nodup) (hb : ∀ x, x ∈ l → 0 ≤ x ∧ x < N) : l.length ≤ N := by
  have := nodup_len hn (m := (List.range N).map fun i : Nat => (i : Int)) fun x hx => by
    obtain ⟨a, b⟩ := hb x hx
    exact List.mem_map.2 ⟨x.toNat, by rw [List.mem_range]; omega, by omega⟩
  simpa using this
abbrev Ml := Nat → List Int
def ord (m : Ml) (c : Nat) : List Int := m (c % 4) ++ (m ((c + 1) % 4) ++ (m ((c + 2) % 4) ++ m ((c + 3) % 4)))
theorem ord_rot (m : Ml) (c : Nat) : ∃ a b, ord m c = a ++ b ∧ ord m (c + 1) = b ++ a := by
  refine ⟨m (c % 4), _, rfl, ?_⟩
  unfold ord
  rw [show (c + 1 + 1) % 4 = (c + 2) % 4 by omega, show (c + 1 + 2) % 4 = (c + 3) % 4 by omega, show (c + 1 + 3) % 4 = c % 4 by omega]
  simp only [List.append_assoc]
theorem Cyc.ordC {N : Nat} {nx pv : List Int} {m : Ml} (h : Cyc N nx pv (ord m 0)) : ∀ c, Cyc N nx pv (ord m c)
  | 0 => h
  | c + 1 => by
    obtain ⟨a, b, e1, e2⟩ := ord_rot m c
    rw [e2]
    have := Cyc.ordC h c
    rw [e1] at this
    exact this.rot
theorem Cyc.ordZ {N : Nat} {nx pv : List Int} {m : Ml} : ∀ c, c ≤ 4 → Cyc N nx pv (ord m c) → Cyc N nx pv (ord m 0) := by
  intro c hc h
  have h4 : ∀ k d, Cyc N nx pv (ord m d) → Cyc N nx pv (ord m (d + k)) := by
    intro k
    induction k with
    | zero => intro d hd; exact hd
    | succ k ih =>
      intro d hd
      obtain ⟨a, b, e1, e2⟩ := ord_rot m (d + k)
      rw [← Nat.add_assoc, e2]
      have := ih d hd
      rw [e1] at this
      exact this.rot
  have := h4 (4 - c) c h
  rw [show c + (4 - c) = 4 by omega] at this
  exact this
theorem mem_ord {m : Ml} {c : Nat} {i : Int} : i ∈ ord m c ↔ ∃ k, k < 4 ∧ i ∈ m k := by
  have h : c % 4 < 4 := Nat.mod_lt _ (by omega)
  unfold ord
  simp only [List.mem_append]
  constructor
  · rintro (h | h | h | h)
    · exact ⟨_, Nat.mod_lt _ (by omega), h⟩
    · exact ⟨_, Nat.mod_lt _ (by omega), h⟩
    · exact ⟨_, Nat.mod_lt _ (by omega), h⟩
    · exact ⟨_, Nat.mod_lt _ (by omega), h⟩
  · rintro ⟨k, hk, hi⟩
    by_cases e0 : c % 4 = k
    · rw [e0]; exact .inl hi
    · by_cases e1 : (c + 1) % 4 = k
      · rw [e1]; exact .inr (.inl hi)
      · by_cases e2 : (c + 2) % 4 = k
        · rw [e2]; exact .inr (.inr (.inl hi))
        · have e3 : (c + 3) % 4 = k := by omega
          rw [e3]; exact .inr (.inr (.inr hi))
structure MlOk (N : Nat) (m : Ml) : Prop where
  nd : ∀ k, k < 4 → (m k).Nodup
  dis : ∀ j k i, j < 4 → k < 4 → i ∈ m j → i ∈ m k → j = k
  inn : ∀ k i, k < 4 → i ∈ m k → 0 ≤ i ∧ i < N
  all : ∀ i : Int, 0 ≤ i → i < N → ∃ k, k < 4 ∧ i ∈ m k
def er (m : Ml) (i : Int) : Ml := fun k => (m k).erase i
def mv (m : Ml) (i : Int) (c : Nat) : Ml := fun k => if k = c then (m k).erase i ++ [i] else (m k).erase i
theorem erase_not {l : List Int} {i : Int} (h : i ∉ l) : l.erase i = l := List.erase_of_not_mem h
theorem erase_app {a b : List Int} {i : Int} (h : ∀ x, x ∈ a → x ∈ b → False) : (a ++ b).erase i = a.erase i ++ b.erase i := by
  rw [List.erase_append]
  by_cases ha : i ∈ a
  · rw [if_pos ha, erase_not (fun hb => h i ha hb)]
  · rw [if_neg ha, erase_not ha]
theorem MlOk.nodup {N : Nat} {m : Ml} (h : MlOk N m) (c : Nat) : (ord m c).Nodup := by
  have l : ∀ x, x % 4 < 4 := fun x => Nat.mod_lt _ (by omega)
  have ne : ∀ j k i, j % 4 ≠ k % 4 → i ∈ m (j % 4) → i ∈ m (k % 4) → False := fun j k i hjk h1 h2 => hjk (h.dis _ _ i (l _) (l _) h1 h2)
  unfold ord
  simp only [List.nodup_append, List.mem_append]
  refine ⟨h.nd _ (l _), ⟨h.nd _ (l _), ⟨h.nd _ (l _), h.nd _ (l _), ?_⟩, ?_⟩, ?_⟩
  · rintro a ha b hb rfl; exact ne (c + 2) (c + 3) a (by omega) ha hb
  · rintro a ha b (hb | hb) rfl
    · exact ne (c + 1) (c + 2) a (by omega) ha hb
    · exact ne (c + 1) (c + 3) a (by omega) ha hb
  · rintro a ha b (hb | hb | hb) rfl
    · exact ne c (c + 1) a (by omega) ha hb
    · exact ne c (c + 2) a (by omega) ha hb
    · exact ne c (c + 3) a (by omega) ha hb
theorem MlOk.ord_er {N : Nat} {m : Ml} (h : MlOk N m) (i : Int) (c : Nat) : (ord m c).erase i = ord (er m i) c := by
  have nd := h.nodup c
  unfold ord at nd ⊢
  simp only [List.nodup_append, List.mem_append] at nd
  obtain ⟨-, ⟨-, ⟨-, -, h3⟩, h2⟩, h1⟩ := nd
  rw [erase_app (fun x hx hy => h1 x hx x (by simpa using hy) rfl), erase_app (fun x hx hy => h2 x hx x (by simpa using hy) rfl), erase_app (fun x hx hy => h3 x hx x hy rfl)]
  rfl
theorem mem_er {N : Nat} {m : Ml} (h : MlOk N m) {i j : Int} {k : Nat} (hk : k < 4) : j ∈ er m i k ↔ j ≠ i ∧ j ∈ m k := by
  unfold er
  exact (h.nd k hk).mem_erase_iff
theorem mem_mv {N : Nat} {m : Ml} (h : MlOk N m) {i j : Int} {c k : Nat} (hk : k < 4) : j ∈ mv m i c k ↔ (j ≠ i ∧ j ∈ m k) ∨ (k = c ∧ j = i) := by
  have := mem_er h (i := i) (j := j) hk
  unfold er at this
  unfold mv
  by_cases e : k = c
  · rw [if_pos e, List.mem_append, this]; simp [e]
  · rw [if_neg e, this]; simp [e]
theorem MlOk.mv {N : Nat} {m : Ml} (h : MlOk N m) {i : Int} (hi : 0 ≤ i ∧ i < N) {c : Nat} (hc : c < 4) : MlOk N (mv m i c) := by
  refine ⟨fun k hk => ?_, fun j k x hj hk h1 h2 => ?_, fun k x hk hx => ?_, fun x h0 h1 => ?_⟩
  · have hn := (h.nd k hk).erase i
    unfold Go.Proofs.YtaihjlemofgokaaGreat.AA.mv
    by_cases e : k = c
    · rw [if_pos e, List.nodup_append]
      refine ⟨hn, by simp, fun a ha b hb => ?_⟩
      obtain rfl : b = i := by simpa using hb
      exact ((h.nd k hk).mem_erase_iff.1 ha).1
    · rw [if_neg e]; exact hn
  · rw [mem_mv h hj] at h1
    rw [mem_mv h hk] at h2
    rcases h1 with h1 | h1 <;> rcases h2 with h2 | h2
    · exact h.dis _ _ _ hj hk h1.2 h2.2
    · exact absurd h2.2 h1.1
    · exact absurd h1.2 h2.1
    · omega
  · rw [mem_mv h hk] at hx
    rcases hx with hx | hx
    · exact h.inn k x hk hx.2
    · rw [hx.2]; exact hi
  · by_cases e : x = i
    · exact ⟨c, hc, (mem_mv h hc).2 (.inr ⟨rfl, e⟩)⟩
    · obtain ⟨k, hk, hm⟩ := h.all x h0 h1
      exact ⟨k, hk, (mem_mv h hk).2 (.inl ⟨e, hm⟩)⟩
theorem Cyc.outM {N : Nat} {nx pv l : List Int} {i p n : Int} (h : Cyc N nx pv l) (hi : i ∈ l) (hp : p = at' pv i) (hn : n = at' nx i) : Cyc N ((nx.set p.toNat n).set i.toNat (-1)) ((pv.set n.toNat p).set i.toNat (-1)) (l.erase i) ∧ (0 ≤ p ∧ p < N) ∧ (0 ≤ n ∧ n < N) := by
  obtain ⟨a, b, rfl, ha⟩ := List.append_of_mem hi |>.elim fun a ⟨b, e⟩ => (⟨a, b, e, by
    have := h.nd
    rw [e, List.nodup_append] at this
    exact fun hm => this.2.2 i hm i (by simp) rfl⟩ : ∃ a b, l = a ++ i :: b ∧ i ∉ a)
  obtain ⟨h1, h2⟩ := (Cyc.rot h : Cyc N nx pv (i :: b ++ a)).out1 hp hn
  refine ⟨?_, h2⟩
  rw [List.erase_append_right _ ha, List.erase_cons_head]
  exact h1.rot
theorem ord_mv {m : Ml} {i : Int} {c : Nat} (hc : c < 4) : ord (mv m i c) (c + 1) = ord (er m i) (c + 1) ++ [i] := by
  have e : ∀ k, k ≠ c → mv m i c k = er m i k := fun k hk => by unfold mv er; rw [if_neg hk]
  have e' : mv m i c c = er m i c ++ [i] := by unfold mv er; rw [if_pos rfl]
  unfold ord
  rw [e _ (by omega), e _ (by omega), e _ (by omega), show (c + 1 + 3) % 4 = c by omega, e']
  simp only [List.append_assoc]
def fst1 (l : List Int) : Int := l.headD (-1)
theorem Cyc.inM {N : Nat} {nx pv : List Int} {m : Ml} {i a : Int} {c : Nat} (hc : c < 4) (hok : MlOk N m) (hi : 0 ≤ i ∧ i < N) (h : Cyc N nx pv (ord (er m i) 0)) (ha : a = fst1 (ord (er m i) (c + 1))) :
    (a = -1 → ord (er m i) (c + 1) = [] ∧ Cyc N (nx.set i.toNat i) (pv.set i.toNat i) (ord (mv m i c) 0)) ∧
    (a ≠ -1 → (0 ≤ a ∧ a < N) ∧ a ≠ i ∧ (0 ≤ at' pv a ∧ at' pv a < N) ∧ at' nx a ≠ -1 ∧ Cyc N ((nx.set (at' pv a).toNat i).set i.toNat a) ((pv.set a.toNat i).set i.toNat (at' pv a)) (ord (mv m i c) 0)) := by
  have h1 := Cyc.ordC h (c + 1)
  have hni : i ∉ ord (er m i) (c + 1) := by
    intro hm
    obtain ⟨k, hk, hm⟩ := mem_ord.1 hm
    exact ((mem_er hok hk).1 hm).1 rfl
  have fin : ∀ {nx' pv'}, Cyc N nx' pv' (ord (er m i) (c + 1) ++ [i]) → Cyc N nx' pv' (ord (mv m i c) 0) := fun h => by
    rw [← ord_mv hc] at h
    exact Cyc.ordZ (c + 1) (by omega) h
  cases hl : ord (er m i) (c + 1) with
  | nil =>
    rw [hl] at h1 ha fin
    refine ⟨fun _ => ⟨rfl, fin (h1.in0 hi)⟩, fun hne => absurd ha hne⟩
  | cons x t =>
    rw [hl] at h1 ha fin hni
    obtain rfl : a = x := ha
    have hx := h1.inn a (List.mem_cons_self ..)
    refine ⟨fun e => by omega, fun _ => ?_⟩
    obtain ⟨h2, h3⟩ := h1.in1 hi hni rfl
    refine ⟨hx, fun e => hni (by rw [← e]; simp), h3, ?_, fin h2⟩
    cases t with
    | nil =>
      have := (h1.lst (x := a) (z := a) (by simp)).1
      omega
    | cons y t =>
      have := (Cyc.nxt (p := []) h1).1
      have := h1.inn y (by simp)
      omega
def alM (m : Ml) : Int × Ml := match m 0 with
  | [] => (-1, m)
  | i :: _ => (i, mv m i 1)
def shM (m : Ml) (i : Int) : Ml := if i ∈ m 3 then mv m i 2 else m
def scM (m : Ml) : Int × Ml := match m 2 with
  | [] => (-1, m)
  | i :: _ => (i, mv m i 1)
def flM (m : Ml) : Ml := fun k => if k = 0 then m 0 ++ m 3 else if k = 1 then [] else if k = 3 then m 1 else m k
def mvN (m : Ml) (a b : Nat) (j : Nat) : Ml := fun k => if k = b then m b ++ (m a).take j else if k = a then (m a).drop j else m k
theorem mvN_0 {m : Ml} {a b : Nat} (h : a ≠ b) : mvN m a b 0 = m := by
  funext k
  unfold mvN
  by_cases hb : k = b
  · rw [if_pos hb]; simp [hb]
  · rw [if_neg hb]
    by_cases ha : k = a
    · rw [if_pos ha]; simp [ha]
    · rw [if_neg ha]
theorem mvN_succ {N : Nat} {m : Ml} (h : MlOk N m) {a b : Nat} (ha : a < 4) (hb : b < 4) (hab : a ≠ b) {j : Nat} {i : Int} (hj : (m a)[j]? = some i) : ∀ k, k < 4 → mv (mvN m a b j) i b k = mvN m a b (j + 1) k := by
  intro k hk
  obtain ⟨hlt, hi⟩ := List.getElem?_eq_some_iff.1 hj
  have hd : (m a).drop j = i :: (m a).drop (j + 1) := by rw [← hi]; exact List.drop_eq_getElem_cons hlt
  have ht : (m a).take (j + 1) = (m a).take j ++ [i] := by rw [List.take_add_one, hj]; rfl
  have hnd := h.nd a ha
  rw [← List.take_append_drop j (m a), List.nodup_append, hd] at hnd
  obtain ⟨n1, n2, n3⟩ := hnd
  have him : i ∈ m a := List.mem_of_getElem? hj
  unfold mv mvN
  by_cases e : k = b
  · rw [if_pos e, if_pos e, if_pos e, ht, erase_not, List.append_assoc]
    rw [List.mem_append]
    rintro (hm | hm)
    · exact hab (h.dis a b i ha hb him hm)
    · exact n3 i hm i (by simp) rfl
  · rw [if_neg e, if_neg e, if_neg e]
    by_cases e' : k = a
    · rw [if_pos e', if_pos e', hd, List.erase_cons_head]
    · rw [if_neg e', if_neg e', erase_not]
      intro hm
      exact e' (h.dis k a i hk ha hm him)
def colM (m : Ml) (c : Int) : Int := if c ∈ m 0 then 0 else if c ∈ m 1 then 1 else if c ∈ m 2 then 2 else if c ∈ m 3 then 3 else -1
theorem colM_eq {N : Nat} {m : Ml} (h : MlOk N m) {k : Nat} (hk : k < 4) {c : Int} (hc : c ∈ m k) : colM m c = k := by
  have ne : ∀ j, j < 4 → j ≠ k → c ∉ m j := fun j hj hjk hm => hjk (h.dis j k c hj hk hm hc)
  unfold colM
  match k, hk with
  | 0, _ => rw [if_pos hc]; rfl
  | 1, _ => rw [if_neg (ne 0 (by omega) (by omega)), if_pos hc]; rfl
  | 2, _ => rw [if_neg (ne 0 (by omega) (by omega)), if_neg (ne 1 (by omega) (by omega)), if_pos hc]; rfl
  | 3, _ => rw [if_neg (ne 0 (by omega) (by omega)), if_neg (ne 1 (by omega) (by omega)), if_neg (ne 2 (by omega) (by omega)), if_pos hc]; rfl
open Go Go.RowKit
attribute [local go_sem ↓] WP_seq WP_skip WP_region WP_dregion WP_cond WP_block WP_exit WP_ret OW_nil OW_cons DW_nil DW_cons XW_call reduceIte OW_guard DW_guard
attribute [local go_sem] XW exA KO_eq OptK_some EvK_some GW2_true GW2_false KS_normal KS_ret KS_exit KB_normal KB_ret KB_exit CP2_bool RP_ret RP_normal putA_some putA_none ev_t ev_c evs evo wantA initA resA Tr.get_set vl chkOk cond_true cond_false Nat.add_zero Nat.mul_one Nat.one_mul Nat.zero_add Nat.zero_mul aggOf pInt binA unA intA beq_true beq_false Bool.not_true Bool.not_false Bool.not_eq_true and_self and_true true_and reduceIte Nat.reduceEqDiff Nat.succ_ne_self Nat.reduceAdd Nat.reduceMul Nat.reduceSub Nat.reduceBEq Nat.reduceLT Nat.reduceLeDiff Int.cast_ofNat_Int Int.reduceToNat Int.reduceLT Int.reduceLE Int.reduceGE Int.reduceGT Int.reduceEq Int.reduceNe Int.reduceAdd Int.reduceSub Int.reduceNeg decide_true decide_false Int.toNat_natCast reduceCtorEq List.nil_append List.cons_append AV.boxy AV.cells List.length_cons List.length_nil Nat.beq_refl AOp.cl KDW_0 KDW_1 KDW_2 OWskip_eq DWskip_eq fillA setAt DChk DAt stepA ble_dec beq_dec Bool.and_self Bool.and_true Bool.true_and Bool.and_false Bool.false_and List.take_succ_cons List.take_zero List.drop_succ_cons List.drop_zero List.take_nil List.drop_nil List.append_nil eqAV eqAVL BEq.rfl sameS Option.map Option.isNone wrap64 gt_iff_lt ge_iff_le Int.lt_irrefl Int.le_refl
set_option maxRecDepth 100000
set_option maxHeartbeats 2000000
attribute [local irreducible] Tr.set
def IR (H : AHeap) (x N : Nat) (l : List Int) : Prop := Blk H x N (fun i => iv (l.getD i 0)) ∧ l.length = N
theorem IR.ld {H : AHeap} {x N : Nat} {l : List Int} (h : IR H x N l) {i : Int} (h0 : 0 ≤ i) (h1 : i < N) : loadA H x i.toNat 1 = some [.int .i64 (at' l i)] := h.1.load (by omega)
theorem IR.keep {H H' : AHeap} {x N : Nat} {l : List Int} (h : IR H x N l) (hl : H.next ≤ H'.next) (hg : H'.get x = H.get x) : IR H' x N l := ⟨h.1.keep' hl hg, h.2⟩
theorem IR.st {H : AHeap} {x N : Nat} {l : List Int} (h : IR H x N l) {i : Int} (h0 : 0 ≤ i) (h1 : i < N) (v : Int) : ∃ H', storeA H x i.toNat [.int .i64 v] = some H' ∧ IR H' x N (l.set i.toNat v) ∧ Ch x H H' := by
  obtain ⟨H', e1, e2, e3, e4⟩ := h.1.store (i := i.toNat) (by omega) (iv v)
  refine ⟨H', e1, ⟨e2.congr fun j hj => ?_, by rw [List.length_set]; exact h.2⟩, e3, e4⟩
  unfold upd
  have := h.2
  simp only [List.getD_eq_getElem?_getD, List.getElem?_set]
  by_cases e : i.toNat = j
  · subst e; simp [h.2, hj]
  · rw [if_neg (Ne.symm e), if_neg e]
structure RingR (H : AHeap) (D : Nat → Prop) (b xn xp N : Nat) (nx pv : List Int) (cnt : Int) : Prop where
  blk : ∃ c1 c2, Blk H b 3 fun i => if i = 0 then .slice (some (xn, 0)) 1 N c1 else if i = 1 then .slice (some (xp, 0)) 1 N c2 else .int .i64 cnt
  nx : IR H xn N nx
  pv : IR H xp N pv
  ne : b ≠ xn ∧ b ≠ xp ∧ xn ≠ xp
  d : D b ∧ D xn ∧ D xp
theorem RingR.keep {H H' : AHeap} {D : Nat → Prop} {b xn xp N : Nat} {nx pv : List Int} {cnt : Int} (h : RingR H D b xn xp N nx pv cnt) (hl : H.next ≤ H'.next) (hg : ∀ x, D x → x < H.next → H'.get x = H.get x) : RingR H' D b xn xp N nx pv cnt := by
  obtain ⟨c1, c2, hb⟩ := h.blk
  exact ⟨⟨c1, c2, hb.keep' hl (hg b h.d.1 hb.1)⟩, h.nx.keep hl (hg xn h.d.2.1 h.nx.1.1), h.pv.keep hl (hg xp h.d.2.2 h.pv.1.1), h.ne, h.d⟩
section
variable {H : AHeap} {D : Nat → Prop} {b xn xp N : Nat} {nx pv : List Int} {cnt : Int}
theorem RingR.lds (h : RingR H D b xn xp N nx pv cnt) : ∃ c1 c2, loadA H b 0 1 = some [.slice (some (xn, 0)) 1 N c1] ∧ loadA H b 1 1 = some [.slice (some (xp, 0)) 1 N c2] ∧ loadA H b 2 1 = some [.int .i64 cnt] := by
  obtain ⟨c1, c2, hb⟩ := h.blk
  exact ⟨c1, c2, hb.load (i := 0) (by omega), hb.load (i := 1) (by omega), hb.load (i := 2) (by omega)⟩
def inB (N : Nat) (nx : List Int) (i : Int) : Bool := decide (0 ≤ i ∧ i < N ∧ 0 ≤ at' nx i)
theorem c_rin (h : RingR H D b xn xp N nx pv cnt) (i : Int) : CW MN 104 [.ptr (some (b, 0)), .int .i64 i] H fun v H' => v = .bool (inB N nx i) ∧ H' = H := by
  refine CW_of (fn := af104) rfl ?_
  dsimp only [af104, qm, q, qG, qn, qi, qb, qB, qk, qc, qo, qg, qv, qr]
  obtain ⟨c1, c2, l0, l1, l2⟩ := h.lds
  by_cases h0 : 0 ≤ i
  · by_cases h1 : i < (N : Int)
    · by_cases h2 : 0 ≤ at' nx i
      · have e : inB N nx i = true := decide_eq_true ⟨h0, h1, h2⟩
        simp -implicitDefEqProofs only [h0, h1, h2, e, l0, h.nx.ld h0 h1, eqA, eqD, go_sem]
      · have e : inB N nx i = false := decide_eq_false fun h => h2 h.2.2
        simp -implicitDefEqProofs only [h0, h1, h2, e, l0, h.nx.ld h0 h1, Bool.false_eq_true, eqA, eqD, go_sem]
    · have e : inB N nx i = false := decide_eq_false fun h => h1 h.2.1
      simp -implicitDefEqProofs only [h0, h1, e, l0, Bool.false_eq_true, eqA, eqD, go_sem]
  · have e : inB N nx i = false := decide_eq_false fun h => h0 h.1
    simp -implicitDefEqProofs only [h0, e, Bool.false_eq_true, eqA, eqD, go_sem]
theorem inB_yes {l : List Int} (h : Cyc N nx pv l) {i : Int} (hi : i ∈ l) : inB N nx i = true := by
  have hb := h.inn i hi
  obtain ⟨p, q, rfl⟩ := List.append_of_mem hi
  have h' : Cyc N nx pv (i :: q ++ p) := h.rot
  refine decide_eq_true ⟨hb.1, hb.2, ?_⟩
  cases hq : q ++ p with
  | nil =>
    rw [List.cons_append, hq] at h'
    have := (h'.lst (x := i) (z := i) (by simp)).1
    omega
  | cons y t =>
    rw [List.cons_append, hq] at h'
    have := (Cyc.nxt (p := []) h').1
    have := h'.inn y (by simp)
    omega
theorem inB_no {l : List Int} (h : Cyc N nx pv l) {i : Int} (hi : i ∉ l) : inB N nx i = false := by
  refine decide_eq_false ?_
  rintro ⟨h0, h1, h2⟩
  rw [h.out i h0 h1 hi] at h2
  omega
theorem c_rNext {l : List Int} (h : RingR H D b xn xp N nx pv cnt) (hc : Cyc N nx pv l) {i : Int} (hi : i ∈ l) : CW MN 94 [.ptr (some (b, 0)), .int .i64 i] H fun v H' => v = .int .i64 (at' nx i) ∧ H' = H := by
  refine CW_of (fn := af94) rfl ?_
  dsimp only [af94, qm, q, qG, qn, qi, qb, qB, qk, qc, qo, qg, qv, qr]
  obtain ⟨c1, c2, l0, l1, l2⟩ := h.lds
  obtain ⟨h0, h1⟩ := hc.inn i hi
  simp -implicitDefEqProofs only [eqA, eqD, go_sem]
  refine CW.mono (c_rin h i) ?_
  rintro v H' ⟨rfl, rfl⟩
  rw [inB_yes hc hi]
  simp -implicitDefEqProofs only [h0, h1, l0, h.nx.ld h0 h1, Bool.false_eq_true, eqA, eqD, go_sem]
theorem RingR.w2 (h : RingR H D b xn xp N nx pv cnt) {i j : Int} (hi : 0 ≤ i ∧ i < N) (hj : 0 ≤ j ∧ j < N) (v w : Int) : ∃ H1 H2, storeA H xn i.toNat [.int .i64 v] = some H1 ∧ storeA H1 xp j.toNat [.int .i64 w] = some H2 ∧ RingR H2 D b xn xp N (nx.set i.toNat v) (pv.set j.toNat w) cnt ∧ Evo D H H2 ∧ (∀ k n, loadA H1 b k n = loadA H b k n) ∧ (∀ k n, loadA H2 b k n = loadA H b k n) ∧ H2.next = H.next := by
  obtain ⟨n1, n2, n3⟩ := h.ne
  obtain ⟨d1, d2, d3⟩ := h.d
  obtain ⟨H1, a1, a2, a3⟩ := h.nx.st hi.1 hi.2 v
  have p1 := h.pv.keep (H' := H1) (by rw [a3.1]; exact Nat.le_refl _) (a3.2 xp (Ne.symm n3))
  obtain ⟨H2, b1, b2, b3⟩ := p1.st hj.1 hj.2 w
  obtain ⟨c1, c2, hb⟩ := h.blk
  have e1 : H1.get b = H.get b := a3.2 b n1
  have e2 : H2.get b = H.get b := by rw [b3.2 b n2, e1]
  exact ⟨H1, H2, a1, b1, ⟨⟨c1, c2, hb.keep' (by rw [b3.1, a3.1]; exact Nat.le_refl _) e2⟩, a2.keep (by rw [b3.1]; exact Nat.le_refl _) (b3.2 xn n3), b2, h.ne, h.d⟩, (Evo.of_ch a3 d2).then (Evo.of_ch b3 d3) fun _ _ h => h, fun k n => loadA_congr e1, fun k n => loadA_congr e2, by rw [b3.1, a3.1]⟩
theorem RingR.wc (h : RingR H D b xn xp N nx pv cnt) (v : Int) : ∃ H1, storeA H b 2 [.int .i64 v] = some H1 ∧ RingR H1 D b xn xp N nx pv v ∧ Evo D H H1 ∧ H1.next = H.next := by
  obtain ⟨n1, n2, n3⟩ := h.ne
  obtain ⟨c1, c2, hb⟩ := h.blk
  obtain ⟨H1, a1, a2, a3, a4⟩ := hb.store (i := 2) (by omega) (.int .i64 v)
  refine ⟨H1, a1, ⟨⟨c1, c2, a2.congr fun i hi => ?_⟩, h.nx.keep (by rw [a3]; exact Nat.le_refl _) (a4 xn (Ne.symm n1)), h.pv.keep (by rw [a3]; exact Nat.le_refl _) (a4 xp (Ne.symm n2)), h.ne, h.d⟩, Evo.of_ch ⟨a3, a4⟩ h.d.1, a3⟩
  unfold upd
  match i, hi with
  | 0, _ => rfl
  | 1, _ => rfl
  | 2, _ => rfl
theorem c_rOut {l : List Int} (h : RingR H D b xn xp N nx pv cnt) (hc : Cyc N nx pv l) {i : Int} (hi : i ∈ l) (hcnt : -9223372036854775808 ≤ cnt - 1 ∧ cnt - 1 ≤ 9223372036854775807) : CW MN 95 [.ptr (some (b, 0)), .int .i64 i] H fun v H' => v = .bool true ∧ ∃ nx' pv', RingR H' D b xn xp N nx' pv' (cnt - 1) ∧ Cyc N nx' pv' (l.erase i) ∧ Evo D H H' ∧ H'.next = H.next := by
  refine CW_of (fn := af95) rfl ?_
  dsimp only [af95, qm, q, qG, qn, qi, qb, qB, qk, qc, qo, qg, qv, qr]
  obtain ⟨c1, c2, l0, l1, l2⟩ := h.lds
  obtain ⟨h0, h1⟩ := hc.inn i hi
  obtain ⟨hcyc, hp, hn⟩ := hc.outM hi rfl rfl
  obtain ⟨H1, H2, a1, a2, a3, a4, a5, a6, a7⟩ := h.w2 hp hn (at' nx i) (at' pv i)
  obtain ⟨H3, H4, b1, b2, b3, b4, b5, b6, b7⟩ := a3.w2 ⟨h0, h1⟩ ⟨h0, h1⟩ (-1) (-1)
  obtain ⟨H5, d1, d2, d3, d4⟩ := b3.wc (cnt - 1)
  have hw : IntKind.i64.wrap (cnt - 1) = cnt - 1 := wrap64 hcnt.1 hcnt.2
  simp -implicitDefEqProofs only [eqA, eqD, go_sem]
  refine CW.mono (c_rin h i) ?_
  rintro v H' ⟨rfl, rfl⟩
  rw [inB_yes hc hi]
  simp -implicitDefEqProofs only [h0, h1, hp.1, hp.2, hn.1, hn.2, l0, l1, l2, h.nx.ld h0 h1, h.pv.ld h0 h1, a1, a2, a5, a6, b1, b2, b5, b6, d1, hw, Bool.false_eq_true, eqA, eqD, go_sem]
  exact ⟨_, _, d2, hcyc, (a4.then b4 fun _ _ h => h).then d3 fun _ _ h => h, by rw [d4, b7, a7]⟩
end
set_option maxHeartbeats 2000000
section
variable {H : AHeap} {D : Nat → Prop} {b xn xp N : Nat} {nx pv : List Int} {cnt : Int}
theorem c_rIn0 (h : RingR H D b xn xp N nx pv 0) (hc : Cyc N nx pv []) {i : Int} (hi : 0 ≤ i ∧ i < N) : CW MN 96 [.ptr (some (b, 0)), .int .i64 i, .int .i64 (-1)] H fun v H' => v = .bool true ∧ RingR H' D b xn xp N (nx.set i.toNat i) (pv.set i.toNat i) 1 ∧ Evo D H H' ∧ H'.next = H.next := by
  refine CW_of (fn := af96) rfl ?_
  dsimp only [af96, qm, q, qG, qn, qi, qb, qB, qk, qc, qo, qg, qv, qr]
  obtain ⟨c1, c2, l0, l1, l2⟩ := h.lds
  have h0 := hi.1
  have h1 := hi.2
  have h0' : ¬ i < 0 := by omega
  have h1' : ¬ (N : Int) ≤ i := by omega
  obtain ⟨H3, H4, b1, b2, b3, b4, b5, b6, b7⟩ := h.w2 hi hi i i
  obtain ⟨H5, d1, d2, d3, d4⟩ := b3.wc 1
  have hw : IntKind.i64.wrap (0 + 1) = 1 := wrap64 (by omega) (by omega)
  simp -implicitDefEqProofs only [h0', h1', l0, Bool.false_eq_true, eqA, eqD, go_sem]
  refine CW.mono (c_rin h i) ?_
  rintro v H' ⟨rfl, rfl⟩
  rw [inB_no hc (by simp)]
  simp -implicitDefEqProofs only [h0', h1', l0, Bool.false_eq_true, eqA, eqD, go_sem]
  refine CW.mono (c_rin h (-1)) ?_
  rintro v H' ⟨rfl, rfl⟩
  have e : inB N nx (-1) = false := decide_eq_false fun h => by omega
  have w1 : IntKind.i64.wrap 1 = 1 := wrap64 (by omega) (by omega)
  simp -implicitDefEqProofs only [e, h0, h1, h0', h1', l0, l1, l2, b1, b2, b5, b6, d1, hw, w1, Bool.false_eq_true, bne_self_eq_false, eqA, eqD, go_sem]
  exact ⟨d2, b4.then d3 fun _ _ h => h, by rw [d4, b7]⟩
theorem c_rIn1 {a : Int} {l : List Int} (h : RingR H D b xn xp N nx pv cnt) (hc : Cyc N nx pv l) {i : Int} (hi : 0 ≤ i ∧ i < N) (hil : i ∉ l) (ha : a ∈ l) (hp : 0 ≤ at' pv a ∧ at' pv a < N) (hcnt : -9223372036854775808 ≤ cnt + 1 ∧ cnt + 1 ≤ 9223372036854775807) :
    CW MN 96 [.ptr (some (b, 0)), .int .i64 i, .int .i64 a] H fun v H' => v = .bool true ∧ RingR H' D b xn xp N ((nx.set (at' pv a).toNat i).set i.toNat a) ((pv.set a.toNat i).set i.toNat (at' pv a)) (cnt + 1) ∧ Evo D H H' ∧ H'.next = H.next := by
  refine CW_of (fn := af96) rfl ?_
  dsimp only [af96, qm, q, qG, qn, qi, qb, qB, qk, qc, qo, qg, qv, qr]
  obtain ⟨c1, c2, l0, l1, l2⟩ := h.lds
  have h0 := hi.1
  have h1 := hi.2
  obtain ⟨a0, a1⟩ := hc.inn a ha
  have h0' : ¬ i < 0 := by omega
  have h1' : ¬ (N : Int) ≤ i := by omega
  have ha' : (a == -1) = false := by simp; omega
  obtain ⟨H1, H2, q1, q2, q3, q4, q5, q6, q7⟩ := h.w2 hp ⟨a0, a1⟩ i i
  obtain ⟨H3, H4, b1, b2, b3, b4, b5, b6, b7⟩ := q3.w2 ⟨h0, h1⟩ ⟨h0, h1⟩ a (at' pv a)
  obtain ⟨H5, d1, d2, d3, d4⟩ := b3.wc (cnt + 1)
  have hw : IntKind.i64.wrap (cnt + 1) = cnt + 1 := wrap64 hcnt.1 hcnt.2
  simp -implicitDefEqProofs only [h0', h1', l0, Bool.false_eq_true, eqA, eqD, go_sem]
  refine CW.mono (c_rin h i) ?_
  rintro v H' ⟨rfl, rfl⟩
  rw [inB_no hc hil]
  simp -implicitDefEqProofs only [h0', h1', l0, Bool.false_eq_true, eqA, eqD, go_sem]
  refine CW.mono (c_rin h a) ?_
  rintro v H' ⟨rfl, rfl⟩
  rw [inB_yes hc ha]
  simp -implicitDefEqProofs only [h0, h1, h0', h1', a0, a1, ha', hp.1, hp.2, l0, l1, l2, h.pv.ld a0 a1, q1, q2, q5, q6, b1, b2, b5, b6, d1, hw, Bool.false_eq_true, eqA, eqD, go_sem]
  exact ⟨d2, (q4.then b4 fun _ _ h => h).then d3 fun _ _ h => h, by rw [d4, b7, q7]⟩
theorem slA_full {x o s n : Nat} {cl : Bool} : slA x o s n cl none (some (.int .i64 (n : Int))) (some (.int .i64 (n : Int))) = some (.slice (some (x, o)) s n true) := by
  have b1 : ∀ d, boundA (some (.int .i64 (n : Int))) 0 n d = some n := fun d => bnd (Nat.le_refl _)
  have b2 : boundA none 0 n 0 = some 0 := rfl
  simp only [slA, b1, b2, Option.isSome_some, Option.isNone_some, Bool.and_false, cond_false, cond_true, Nat.zero_mul, Nat.add_zero, Nat.sub_zero, Nat.beq_refl]
theorem slA_pre {x o s n k : Nat} {cl : Bool} (h : k ≤ n) : slA x o s n cl none (some (.int .i64 (k : Int))) none = some (.slice (some (x, o)) s k (cl && k.beq n)) := by
  have b1 : ∀ d, boundA (some (.int .i64 (k : Int))) 0 n d = some k := fun d => bnd h
  have b2 : boundA none 0 k 0 = some 0 := rfl
  have b3 : boundA none 0 n n = some n := rfl
  simp only [slA, b1, b2, b3, Option.isSome_none, Option.isNone_some, Bool.and_false, cond_false, Nat.zero_mul, Nat.add_zero, Nat.sub_zero]
theorem slA_mid {x o s n : Nat} {a b : Int} {cl : Bool} (h0 : 0 ≤ a) (h : a ≤ b) (h1 : b ≤ n) : slA x o s n cl (some (.int .i64 a)) (some (.int .i64 b)) none = some (.slice (some (x, o + a.toNat * s)) s (b.toNat - a.toNat) (cl && b.toNat.beq n)) := by
  have b1 : ∀ d, boundA (some (.int .i64 b)) 0 n d = some b.toNat := fun d => by simp only [boundA]; rw [if_pos (by omega)]
  have b2 : ∀ d, boundA (some (.int .i64 a)) 0 b.toNat d = some a.toNat := fun d => by simp only [boundA]; rw [if_pos (by omega)]
  have b3 : boundA none 0 n n = some n := rfl
  simp only [slA, b1, b2, b3, Option.isSome_none, Option.isNone_some, Bool.and_false, cond_false]
def FreshI (H H' : AHeap) (v : AV) (l : List Int) : Prop := ∃ x, v = .slice (some (x, 0)) 1 l.length true ∧ Rd H' x 0 (l.map iv) ∧ H.next ≤ x
theorem c_rFrom {i : Int} {t : List Int} (h : RingR H D b xn xp N nx pv cnt) (hc : Cyc N nx pv (i :: t)) (hN : N ≤ 4096) : CW MN 101 [.ptr (some (b, 0)), .int .i64 i] H fun v H' => FreshI H H' v (i :: t) ∧ Sm H H' := by
  refine CW_of (fn := af101) rfl ?_
  dsimp only [af101, qm, q, qG, qn, qi, qb, qB, qk, qc, qo, qg, qv, qr]
  have hi := hc.inn i (by simp)
  have h0 := hi.1
  have h1 := hi.2
  have hlN : (i :: t).length ≤ N := cells_le hc.nd hc.inn
  obtain ⟨c1, c2, l0, l1, l2⟩ := h.lds
  have blt : b < H.next := by obtain ⟨_, _, hb⟩ := h.blk; exact hb.1
  have nlt : xn < H.next := h.nx.1.1
  generalize hL : i :: t = L at *
  have nxt : ∀ k, k < L.length → at' nx (L.getD k 0) = (if k + 1 < L.length then L.getD (k + 1) 0 else i) := by
    intro k hk
    by_cases hk1 : k + 1 < L.length
    · rw [if_pos hk1]
      have e : L = L.take k ++ L[k] :: L[k + 1] :: L.drop (k + 2) := by
        rw [← List.drop_eq_getElem_cons hk1, ← List.drop_eq_getElem_cons hk, List.take_append_drop]
      rw [e] at hc
      have := (Cyc.nxt hc).1
      simp only [List.getD_eq_getElem?_getD, List.getElem?_eq_getElem hk, List.getElem?_eq_getElem hk1, Option.getD_some]
      exact this
    · rw [if_neg hk1]
      have hz : (i :: t).getLast? = some (L.getD k 0) := by
        rw [hL, List.getLast?_eq_getElem?, show L.length - 1 = k by omega, List.getD_eq_getElem?_getD, List.getElem?_eq_getElem hk]; rfl
      rw [← hL] at hc
      exact (hc.lst hz).1
  have inL : ∀ k, k < L.length → L.getD k 0 ∈ L := fun k hk => by
    rw [List.getD_eq_getElem?_getD, List.getElem?_eq_getElem hk]
    exact List.getElem_mem hk
  have hh : L.getD 0 0 = i := by rw [← hL]; rfl
  have ne_i : ∀ k, 0 < k → k < L.length → L.getD k 0 ≠ i := fun k hk0 hk e => by
    have hnd := hc.nd
    have : L[k]? = L[0]? := by
      rw [List.getElem?_eq_getElem hk, List.getElem?_eq_getElem (by omega)]
      rw [← hh, List.getD_eq_getElem?_getD, List.getD_eq_getElem?_getD, List.getElem?_eq_getElem hk, List.getElem?_eq_getElem (by omega)] at e
      simpa using e
    have := (List.getElem?_inj hk hnd).1 this
    omega
  have lpos : 0 < L.length := by rw [← hL]; simp
  simp -implicitDefEqProofs only [eqA, eqD, go_sem]
  refine CW.mono (c_rin h i) ?_
  rintro v H' ⟨rfl, rfl⟩
  rw [inB_yes hc (by rw [← hL]; simp)]
  have s1 := Chg.newRow H' [.int .i64 i]
  have r1 := Rd.newRow H' [.int .i64 i]
  have n1 : (H'.newRow [.int .i64 i]).next = H'.next + 1 := rfl
  have la : ∀ H1, Sm H' H1 → ∀ k : Int, 0 ≤ k → k < N → loadA H1 b 0 1 = some [.slice (some (xn, 0)) 1 N c1] ∧ loadA H1 xn k.toNat 1 = some [.int .i64 (at' nx k)] := fun H1 hs k k0 k1 => by
    rw [hs.ld blt, hs.ld nlt]; exact ⟨l0, h.nx.ld k0 k1⟩
  obtain ⟨m1, m2⟩ := la _ s1 i h0 h1
  simp -implicitDefEqProofs only [h0, h1, m1, m2, Bool.false_eq_true, eqA, eqD, go_sem]
  refine WP_mono (Q := fun ex fr H2 => ex = .exit 0 ∧ ∃ x cl, fr.get 5 = some (.slice (some (x, 0)) 1 L.length cl) ∧ Sm H' H2 ∧ Rd H2 x 0 (L.map iv) ∧ H'.next ≤ x) ?_ (WP_loop (fun n fr H2 => ∃ (k : Nat) (x : Nat) (cl : Bool), n = L.length + 1 - k ∧ 0 < k ∧ k ≤ L.length ∧ fr.get 0 = some (.ptr (some (b, 0))) ∧ fr.get 1 = some (.int .i64 i) ∧ fr.get 5 = some (.slice (some (x, 0)) 1 k cl) ∧ fr.get 6 = some (.int .i64 (if k < L.length then L.getD k 0 else i)) ∧ Sm H' H2 ∧ Sl H2 (fun y => y = x) 1 (.slice (some (x, 0)) 1 k cl) k ((L.take k).map iv) ∧ H'.next ≤ x) L.length ?_ ?_)
  · rintro ex fr H2 ⟨rfl, x, cl, g5, s2, r2, hx⟩
    have e1 := slA_full (x := x) (o := 0) (s := 1) (n := L.length) (cl := cl)
    simp -implicitDefEqProofs only [g5, e1, eqA, eqD, go_sem]
    exact ⟨⟨x, rfl, r2, hx⟩, s2⟩
  · refine ⟨1, H'.next, true, by omega, by omega, lpos, ?_⟩
    have e := nxt 0 lpos
    rw [hh] at e
    simp -implicitDefEqProofs only [e, Nat.zero_add, eqA, eqD, go_sem]
    refine ⟨s1, .inr ⟨H'.next, 0, true, rfl, rfl, ?_, ?_, fun h => (by cases h)⟩, Nat.le_refl _⟩
    · rw [← hL]; rfl
    · rw [← hL]; exact r1
  · rintro n fr H2 ⟨k, x, cl, hn, hk0, hk, g0, g1, g5, g6, s2, hs, hx⟩
    by_cases hlt : k < L.length
    · rw [if_pos hlt] at g6
      have hne := ne_i k hk0 hlt
      have hne' : (L.getD k 0 != i) = true := by simpa using hne
      have hb := hc.inn _ (inL k hlt)
      have hb0 := hb.1
      have hb1 := hb.2
      have e := nxt k hlt
      obtain ⟨H3, e1, e2, e3, e4⟩ := hs.push1 (bytes := 8) (ys := [.int .i64 (L.getD k 0)]) rfl (by omega) (by omega)
      have s3 : Sm H' H3 := s2.weak e3 fun z hz => by
        have := SVok.ubD (x := .sl 1 k ((L.take k).map iv)) hs hz
        omega
      obtain ⟨m1, m2⟩ := la _ s3 _ hb0 hb1
      generalize hv : L.getD k 0 = v at *
      simp -implicitDefEqProofs only [g0, g1, g5, g6, hne', e1, m1, m2, hb0, hb1, e, eqA, eqD, go_sem]
      refine ⟨L.length + 1 - (k + 1), by omega, k + 1, H2.next + 1, false, rfl, by omega, by omega, rfl, rfl, s3, ?_, by have := s2.1; omega⟩
      have : (L.take (k + 1)).map iv = (L.take k).map iv ++ [.int .i64 v] := by
        rw [List.take_add_one, List.getElem?_eq_getElem hlt, List.map_append, ← hv, List.getD_eq_getElem?_getD, List.getElem?_eq_getElem hlt]; rfl
      rw [this]
      exact e4
    · obtain rfl : k = L.length := by omega
      rw [if_neg hlt] at g6
      rw [List.take_length] at hs
      simp -implicitDefEqProofs only [g0, g1, g5, g6, Bool.false_eq_true, bne_self_eq_false, eqA, eqD, go_sem]
      refine ⟨x, cl, rfl, s2, ?_, hx⟩
      rcases hs with ⟨⟨s0, e⟩, -⟩ | ⟨x', o', cl', e, -, -, h4, -⟩
      · cases e
      · cases e; exact h4
end
set_option maxHeartbeats 2000000
structure MA where
  mb : Nat
  rb : Nat
  xn : Nat
  xp : Nat
  xc : Nat
def mc (rb xc : Nat) (c0 : Bool) (N : Nat) (hd ct : Nat → Int) (i : Nat) : AV := if i = 0 then .ptr (some (rb, 0)) else if i = 1 then .slice (some (xc, 0)) 1 N c0 else if i < 6 then .int .i64 (hd (i - 2)) else .int .i64 (ct (i - 6))
abbrev MB (H : AHeap) (a : MA) (c0 : Bool) (N : Nat) (hd ct : Nat → Int) : Prop := Blk H a.mb 10 (mc a.rb a.xc c0 N hd ct)
section
variable {H : AHeap} {a : MA} {c0 : Bool} {N : Nat} {hd ct : Nat → Int}
theorem MB.lds (h : MB H a c0 N hd ct) : loadA H a.mb 0 1 = some [.ptr (some (a.rb, 0))] ∧ loadA H a.mb 1 1 = some [.slice (some (a.xc, 0)) 1 N c0] := ⟨h.load (i := 0) (by omega), h.load (i := 1) (by omega)⟩
theorem MB.ldH (h : MB H a c0 N hd ct) {k : Nat} (hk : k < 4) : loadA H a.mb (2 + k) 1 = some [.int .i64 (hd k)] := by
  rw [h.load (i := 2 + k) (by omega)]
  unfold mc
  rw [if_neg (by omega), if_neg (by omega), if_pos (by omega), show 2 + k - 2 = k by omega]
theorem MB.ldC (h : MB H a c0 N hd ct) {k : Nat} (hk : k < 4) : loadA H a.mb (6 + k) 1 = some [.int .i64 (ct k)] := by
  rw [h.load (i := 6 + k) (by omega)]
  unfold mc
  rw [if_neg (by omega), if_neg (by omega), if_neg (by omega), show 6 + k - 6 = k by omega]
theorem MB.stH (h : MB H a c0 N hd ct) {k : Nat} (hk : k < 4) (v : Int) : ∃ H', storeA H a.mb (2 + k) [.int .i64 v] = some H' ∧ MB H' a c0 N (upd hd k v) ct ∧ Ch a.mb H H' := by
  obtain ⟨H', e1, e2, e3, e4⟩ := h.store (i := 2 + k) (by omega) (.int .i64 v)
  refine ⟨H', e1, e2.congr fun i hi => ?_, e3, e4⟩
  by_cases e : i = 2 + k
  · subst e
    rw [upd_same]
    unfold mc
    rw [if_neg (by omega), if_neg (by omega), if_pos (by omega), show 2 + k - 2 = k by omega, upd_same]
  · rw [upd_ne e]
    unfold mc
    by_cases h2 : i < 6
    · rw [if_pos h2, if_pos h2]
      by_cases h0 : i = 0
      · rw [if_pos h0, if_pos h0]
      by_cases h1 : i = 1
      · rw [if_neg h0, if_pos h1, if_neg h0, if_pos h1]
      rw [if_neg h0, if_neg h1, if_neg h0, if_neg h1, upd_ne (by omega)]
    · rw [if_neg h2, if_neg h2]
theorem MB.stC (h : MB H a c0 N hd ct) {k : Nat} (hk : k < 4) (v : Int) : ∃ H', storeA H a.mb (6 + k) [.int .i64 v] = some H' ∧ MB H' a c0 N hd (upd ct k v) ∧ Ch a.mb H H' := by
  obtain ⟨H', e1, e2, e3, e4⟩ := h.store (i := 6 + k) (by omega) (.int .i64 v)
  refine ⟨H', e1, e2.congr fun i hi => ?_, e3, e4⟩
  by_cases e : i = 6 + k
  · subst e
    rw [upd_same]
    unfold mc
    rw [if_neg (by omega), if_neg (by omega), if_neg (by omega), show 6 + k - 6 = k by omega, upd_same]
  · rw [upd_ne e]
    unfold mc
    by_cases h2 : i < 6
    · rw [if_pos h2, if_pos h2]
    · rw [if_neg h2, if_neg h2, upd_ne (by omega)]
theorem MB.cg {hd' ct' : Nat → Int} (h : MB H a c0 N hd ct) (e1 : ∀ k, k < 4 → hd k = hd' k) (e2 : ∀ k, k < 4 → ct k = ct' k) : MB H a c0 N hd' ct' := by
  refine Blk.congr h fun i hi => ?_
  unfold mc
  by_cases h0 : i = 0
  · rw [if_pos h0, if_pos h0]
  by_cases h1 : i = 1
  · rw [if_neg h0, if_pos h1, if_neg h0, if_pos h1]
  rw [if_neg h0, if_neg h1, if_neg h0, if_neg h1]
  by_cases h2 : i < 6
  · rw [if_pos h2, if_pos h2, e1 _ (by omega)]
  · rw [if_neg h2, if_neg h2, e2 _ (by omega)]
theorem tmodN (m n : Nat) : Int.tmod (m : Int) (n : Int) = ((m % n : Nat) : Int) := rfl
theorem fst1_app {x : List Int} {y : List Int} (h : x = []) : fst1 (x ++ y) = fst1 y := by rw [h]; rfl
theorem c_first {M : Ml} (h : MB H a c0 N hd ct) (hh : ∀ k, k < 4 → hd k = fst1 (M k)) (hM : ∀ k x, k < 4 → x ∈ M k → 0 ≤ x) {c : Nat} (hc : c < 8) : CW MN 97 [.ptr (some (a.mb, 0)), .int .i64 c] H fun v H' => v = .int .i64 (fst1 (ord M c)) ∧ H' = H := by
  refine CW_of (fn := af97) rfl ?_
  dsimp only [af97, qm, q, qG, qn, qi, qb, qB, qk, qc, qo, qg, qv, qr]
  have hneg : ∀ k, k < 4 → (0 ≤ fst1 (M k) ↔ M k ≠ []) := fun k hk => by
    cases hm : M k with
    | nil => simp [fst1]
    | cons x l => simp [fst1]; exact hM k x hk (by rw [hm]; simp)
  have hne : ∀ {x : List Int} (y : List Int), x ≠ [] → fst1 (x ++ y) = fst1 x := fun {x} y hx => by
    cases x with
    | nil => exact absurd rfl hx
    | cons _ _ => rfl
  have hord : ∀ k, k < 4 → (∀ j, j < k → M ((c + j) % 4) = []) → M ((c + k) % 4) ≠ [] → fst1 (ord M c) = fst1 (M ((c + k) % 4)) := by
    intro k hk hj hm
    have hz : 0 < k → M (c % 4) = [] := fun h => hj 0 h
    unfold ord
    match k, hk with
    | 0, _ => exact hne _ hm
    | 1, _ => rw [fst1_app (hz (by omega))]; exact hne _ hm
    | 2, _ => rw [fst1_app (hz (by omega)), fst1_app (hj 1 (by omega))]; exact hne _ hm
    | 3, _ => rw [fst1_app (hz (by omega)), fst1_app (hj 1 (by omega)), fst1_app (hj 2 (by omega))]
  simp -implicitDefEqProofs only [eqA, eqD, go_sem]
  refine WP_loop (fun n fr H' => ∃ k : Nat, n = 4 - k ∧ k ≤ 4 ∧ (∀ j, j < k → M ((c + j) % 4) = []) ∧ fr.get 0 = some (.ptr (some (a.mb, 0))) ∧ fr.get 1 = some (.int .i64 c) ∧ fr.get 7 = some (.int .i64 k) ∧ H' = H) 4 ?_ ?_
  · refine ⟨0, rfl, by omega, fun j hj => by omega, ?_⟩
    simp -implicitDefEqProofs only [eqA, eqD, go_sem]
  · rintro n fr H' ⟨k, hn, hk, hj, g0, g1, g7, rfl⟩
    have i0 : (0 : Int) ≤ k := by omega
    by_cases hlt : k < 4
    · have hlt' : (k : Int) < 4 := by omega
      have hw : IntKind.i64.wrap ((k : Int) + 1) = ((k + 1 : Nat) : Int) := by rw [wrap64 (by omega) (by omega)]; omega
      have hw2 : IntKind.i64.wrap ((c : Int) + (k : Int)) = ((c + k : Nat) : Int) := by rw [wrap64 (by omega) (by omega)]; omega
      have ht : Int.tmod ((c + k : Nat) : Int) 4 = (((c + k) % 4 : Nat) : Int) := tmodN _ 4
      have hm4 : (c + k) % 4 < 4 := Nat.mod_lt _ (by omega)
      have hm4' : (((c + k) % 4 : Nat) : Int) < 4 := by omega
      have hm0 : (0 : Int) ≤ (((c + k) % 4 : Nat) : Int) := by omega
      have ld := h.ldH hm4
      rw [hh _ hm4] at ld
      by_cases hm : M ((c + k) % 4) = []
      · have hf : ¬ 0 ≤ fst1 (M ((c + k) % 4)) := by rw [hneg _ hm4]; simpa using hm
        simp -implicitDefEqProofs only [g0, g1, g7, hlt', i0, hw, hw2, ht, hm4', hm0, ld, hf, Bool.false_eq_true, eqA, eqD, go_sem]
        refine ⟨4 - (k + 1), by omega, k + 1, rfl, by omega, fun j hjk => ?_, rfl⟩
        by_cases e : j = k
        · subst e; exact hm
        · exact hj j (by omega)
      · have hf : 0 ≤ fst1 (M ((c + k) % 4)) := by rw [hneg _ hm4]; exact hm
        simp -implicitDefEqProofs only [g0, g1, g7, hlt', i0, hw, hw2, ht, hm4', hm0, ld, hf, eqA, eqD, go_sem]
        rw [hord k hlt hj hm]
    · obtain rfl : k = 4 := by omega
      have hlt' : ¬ ((4 : Nat) : Int) < 4 := by omega
      have : fst1 (ord M c) = -1 := by
        have hz : M (c % 4) = [] := hj 0 (by omega)
        unfold ord
        rw [fst1_app hz, fst1_app (hj 1 (by omega)), fst1_app (hj 2 (by omega)), hj 3 (by omega)]; rfl
      simp -implicitDefEqProofs only [g0, g1, g7, hlt', this, Bool.false_eq_true, eqA, eqD, go_sem]
end
set_option maxHeartbeats 4000000
theorem WP_assoc {M : Mach} {a b c : ACode} {Q : Post} {fr : AFr} {H : AHeap} : WP M (.seq a (.seq b c)) Q fr H = WP M (.seq (.seq a b) c) Q fr H := by
  have e : KS (WP M (.seq b c) Q) Q = KS (WP M b (KS (WP M c Q) Q)) (KS (WP M c Q) Q) := by
    funext ex fr H
    cases ex <;> rfl
  show WP M a (KS (WP M (.seq b c) Q) Q) fr H = WP M a _ fr H
  rw [e]
def MA.d (a : MA) (x : Nat) : Prop := x = a.mb ∨ x = a.rb ∨ x = a.xn ∨ x = a.xp ∨ x = a.xc
abbrev MA.r (a : MA) (x : Nat) : Prop := x = a.rb ∨ x = a.xn ∨ x = a.xp
structure MillR (H : AHeap) (a : MA) (N : Nat) (m : Ml) : Prop where
  blk : ∃ c0, MB H a c0 N (fun k => fst1 (m k)) fun k => (m k).length
  ring : ∃ nx pv, RingR H a.r a.rb a.xn a.xp N nx pv N ∧ Cyc N nx pv (ord m 0)
  col : ∃ co, IR H a.xc N co ∧ ∀ k, k < 4 → ∀ i, i ∈ m k → at' co i = k
  ok : MlOk N m
  ne : a.mb ≠ a.rb ∧ a.mb ≠ a.xn ∧ a.mb ≠ a.xp ∧ a.mb ≠ a.xc ∧ a.xc ≠ a.rb ∧ a.xc ≠ a.xn ∧ a.xc ≠ a.xp
  n : N ≤ 512
theorem MillR.lt {H : AHeap} {a : MA} {N : Nat} {m : Ml} (h : MillR H a N m) {x : Nat} (hx : a.d x) : x < H.next := by
  obtain ⟨c0, hb⟩ := h.blk
  obtain ⟨nx, pv, hr, -⟩ := h.ring
  obtain ⟨co, hc, -⟩ := h.col
  obtain ⟨c1, c2, rb⟩ := hr.blk
  rcases hx with rfl | rfl | rfl | rfl | rfl
  · exact hb.1
  · exact rb.1
  · exact hr.nx.1.1
  · exact hr.pv.1.1
  · exact hc.1.1
theorem MillR.keep {H H' : AHeap} {a : MA} {N : Nat} {m : Ml} (h : MillR H a N m) (hl : H.next ≤ H'.next) (hg : ∀ x, a.d x → H'.get x = H.get x) : MillR H' a N m := by
  obtain ⟨c0, hb⟩ := h.blk
  obtain ⟨nx, pv, hr, hcy⟩ := h.ring
  obtain ⟨co, hc, hcc⟩ := h.col
  refine ⟨⟨c0, hb.keep' hl (hg _ (.inl rfl))⟩, ⟨nx, pv, hr.keep hl fun x hx _ => hg x ?_, hcy⟩, ⟨co, hc.keep hl (hg _ (.inr (.inr (.inr (.inr rfl))))), hcc⟩, h.ok, h.ne, h.n⟩
  rcases hx with rfl | rfl | rfl
  · exact .inr (.inl rfl)
  · exact .inr (.inr (.inl rfl))
  · exact .inr (.inr (.inr (.inl rfl)))
theorem MlOk.total {N : Nat} {m : Ml} (h : MlOk N m) (c : Nat) : (ord m c).length = N := by
  have h1 := cells_le (h.nodup c) fun x hx => by
    obtain ⟨k, hk, hx⟩ := mem_ord.1 hx
    exact h.inn k x hk hx
  have nd : ((List.range N).map fun i : Nat => (i : Int)).Nodup := by
    rw [List.nodup_iff_pairwise_ne, List.pairwise_map]
    exact (List.nodup_range (n := N)).imp fun h e => h (by omega)
  have h2 := nodup_len nd (m := ord m c) fun x hx => by
    obtain ⟨i, hi, rfl⟩ := List.mem_map.1 hx
    rw [List.mem_range] at hi
    exact mem_ord.2 (h.all i (by omega) (by omega))
  simp at h2
  omega
theorem len_er {l : List Int} {i : Int} (h : i ∈ l) : ((l.erase i).length : Int) = (l.length : Int) - 1 := by
  have := List.length_erase_of_mem h
  have := List.length_pos_of_mem h
  omega
theorem c_move {H : AHeap} {a : MA} {N : Nat} {m : Ml} (h : MillR H a N m) {i : Int} {w c : Nat} (hw : w < 4) (hi : i ∈ m w) (hc : c < 4) (hwc : w ≠ c) :
    CW MN 83 [.ptr (some (a.mb, 0)), .int .i64 i, .int .i64 c] H fun v H' => MillR H' a N (mv m i c) ∧ Evo a.d H H' ∧ H'.next = H.next := by
  refine CW_of (fn := af83) rfl ?_
  dsimp only [af83, qm, q, qG, qn, qi, qb, qB, qk, qc, qo, qg, qv, qr]
  obtain ⟨c0, hb⟩ := h.blk
  obtain ⟨nx, pv, hr, hcy⟩ := h.ring
  obtain ⟨co, hco, hcc⟩ := h.col
  obtain ⟨n1, n2, n3, n4, n5, n6, n7⟩ := h.ne
  have mo := h.ok
  have hN := h.n
  have hib := mo.inn w i hw hi
  have i0 := hib.1
  have i1 := hib.2
  have hiord : i ∈ ord m 0 := mem_ord.2 ⟨w, hw, hi⟩
  have ew : at' co i = (w : Int) := hcc w hw i hi
  have lc := hco.ld i0 i1
  rw [ew] at lc
  have w0 : (0 : Int) ≤ (w : Int) := by omega
  have w4 : (w : Int) < 4 := by omega
  have cc0 : (0 : Int) ≤ (c : Int) := by omega
  have cc4 : (c : Int) < 4 := by omega
  have hno : ∀ k, k < 4 → k ≠ w → i ∉ m k := fun k hk hkw hm => hkw (mo.dis k w i hk hw hm hi)
  have lens : ∀ k, k < 4 → (m k).length ≤ N := fun k hk => cells_le (mo.nd k hk) fun x hx => mo.inn k x hk hx
  have lw := lens w hw
  have lpos : 0 < (m w).length := List.length_pos_of_mem hi
  have lcc := lens c hc
  -- the count
  obtain ⟨H1, a1, b1, ch1⟩ := hb.stC hw ((m w).length - 1 : Int)
  have l00 := hb.lds
  have l06 := hb.ldC hw
  have hw1 : IntKind.i64.wrap (((m w).length : Int) - 1) = ((m w).length : Int) - 1 := wrap64 (by omega) (by omega)
  have l11 := b1.lds
  have l12 := b1.ldH hw
  have l16 := b1.ldC hw
  rw [upd_same] at l16
  have r1 := hr.keep (H' := H1) (by rw [ch1.1]; exact Nat.le_refl _) fun x hx _ => ch1.2 x (by rcases hx with rfl | rfl | rfl <;> omega)
  have k1 := hco.keep (H' := H1) (by rw [ch1.1]; exact Nat.le_refl _) (ch1.2 _ (by omega))
  rw [WP_assoc, WP_assoc]
  refine WP_cut (P := fun fr H2 => fr.get 0 = some (.ptr (some (a.mb, 0))) ∧ fr.get 1 = some (.int .i64 i) ∧ fr.get 2 = some (.int .i64 c) ∧ MB H2 a c0 N (fun k => fst1 (er m i k)) (upd (fun k => ((m k).length : Int)) w (((m w).length : Int) - 1)) ∧ Ch a.mb H H2) ?_ ?_
  · have hother : ∀ k, k < 4 → k ≠ w → fst1 (m k) = fst1 (er m i k) := fun k hk hkw => by
      unfold er; rw [erase_not (hno k hk hkw)]
    by_cases hh : fst1 (m w) = i
    · obtain ⟨t, hm⟩ : ∃ t, m w = i :: t := by
        cases hm : m w with
        | nil => rw [hm] at lpos; simp at lpos
        | cons x t =>
          rw [hm] at hh
          have hxi : x = i := hh
          exact ⟨t, by rw [hxi]⟩
      obtain ⟨H3, a3, b3, ch3⟩ := b1.stH hw (at' nx i)
      have l36 := b3.ldC hw
      rw [upd_same] at l36
      rw [hh] at l12
      simp -implicitDefEqProofs only [i0, i1, l00.1, l00.2, l11.1, lc, w0, w4, l06, hw1, a1, l12, eqA, eqD, go_sem]
      refine CW.mono (c_rNext r1 hcy hiord) ?_
      rintro v H' ⟨rfl, rfl⟩
      rcases t with _ | ⟨y, t⟩
      · obtain ⟨H4, a4, b4, ch4⟩ := b3.stH hw (-1)
        have e : ((m w).length : Int) - 1 = 0 := by rw [hm]; rfl
        have l36' := l36
        rw [e] at l36'
        simp -implicitDefEqProofs only [i0, i1, l11.1, lc, w0, w4, l12, l16, a3, l36', a4, eqA, eqD, go_sem]
        refine ⟨b4.cg (fun k hk => ?_) fun k hk => rfl, (ch1.trans ch3).trans ch4⟩
        by_cases e : k = w
        · subst e
          rw [upd_same]
          unfold er
          rw [hm]; simp [fst1]
        · rw [upd_ne e, upd_ne e]; exact hother k hk e
      · have hy : at' nx i = y := by
          have := hcy.ordC w
          unfold ord at this
          rw [Nat.mod_eq_of_lt hw, hm] at this
          exact (Cyc.nxt (p := []) this).1
        have e : (((m w).length : Int) - 1 == 0) = false := by rw [hm]; simp; omega
        simp -implicitDefEqProofs only [i0, i1, l11.1, lc, w0, w4, l12, l16, a3, l36, e, Bool.false_eq_true, eqA, eqD, go_sem]
        refine ⟨b3.cg (fun k hk => ?_) fun k hk => rfl, ch1.trans ch3⟩
        by_cases e : k = w
        · subst e
          rw [upd_same, hy]
          unfold er
          rw [hm]; simp [fst1]
        · rw [upd_ne e]; exact hother k hk e
    · have hne : (fst1 (m w) == i) = false := by simpa using hh
      have hsame : fst1 (m w) = fst1 (er m i w) := by
        unfold er
        cases hm : m w with
        | nil => rfl
        | cons x t =>
          rw [hm] at hh
          have hxi : ¬ x = i := hh
          rw [List.erase_cons_tail (by simpa using hxi)]; rfl
      simp -implicitDefEqProofs only [i0, i1, l00.1, l00.2, lc, w0, w4, l06, hw1, a1, l12, hne, Bool.false_eq_true, eqA, eqD, go_sem]
      refine ⟨b1.cg (fun k hk => ?_) fun k hk => rfl, ch1⟩
      by_cases e : k = w
      · rw [e]; exact hsame
      · exact hother k hk e
  · rintro fr H2 ⟨g0, g1, g2, b2, ch2⟩
    have r2 := hr.keep (H' := H2) (by rw [ch2.1]; exact Nat.le_refl _) fun x hx _ => ch2.2 x (by rcases hx with rfl | rfl | rfl <;> omega)
    have k2 := hco.keep (H' := H2) (by rw [ch2.1]; exact Nat.le_refl _) (ch2.2 _ (by omega))
    have l21 := b2.lds
    simp -implicitDefEqProofs only [g0, g1, g2, l21.1, eqA, eqD, go_sem]
    refine CW.mono (c_rOut r2 hcy hiord (by omega)) ?_
    rintro v H3 ⟨rfl, nx3, pv3, r3, cy3, ev3, nn3⟩
    have get3 : ∀ x, ¬ a.r x → x < H2.next → H3.get x = H2.get x := fun x hx hl => ev3.2 x hl hx
    have nr : ¬ a.r a.mb := by rintro (e | e | e) <;> omega
    have nc : ¬ a.r a.xc := by rintro (e | e | e) <;> omega
    have b3 : MB H3 a c0 N _ _ := b2.keep' ev3.1 (get3 _ nr b2.1)
    have k3 := k2.keep ev3.1 (get3 _ nc k2.1.1)
    rw [mo.ord_er] at cy3
    have l31 := b3.lds
    have hw2 : IntKind.i64.wrap ((c : Int) + 1) = ((c + 1 : Nat) : Int) := by rw [wrap64 (by omega) (by omega)]; omega
    have ht : Int.tmod ((c + 1 : Nat) : Int) 4 = (((c + 1) % 4 : Nat) : Int) := tmodN _ 4
    simp -implicitDefEqProofs only [g0, g1, g2, l31.1, hw2, ht, eqA, eqD, go_sem]
    refine CW.mono (c_first b3 (M := er m i) (fun k hk => rfl) (fun k x hk hx => (mo.inn k x hk ((mem_er mo hk).1 hx).2).1) (c := (c + 1) % 4) (by omega)) ?_
    rintro v H' ⟨rfl, rfl⟩
    have hom : ord (er m i) ((c + 1) % 4) = ord (er m i) (c + 1) := by
      unfold ord
      rw [show ((c + 1) % 4) % 4 = (c + 1) % 4 by omega, show ((c + 1) % 4 + 1) % 4 = (c + 1 + 1) % 4 by omega, show ((c + 1) % 4 + 2) % 4 = (c + 1 + 2) % 4 by omega, show ((c + 1) % 4 + 3) % 4 = (c + 1 + 3) % 4 by omega]
    rw [hom]
    obtain ⟨in0, in1⟩ := Cyc.inM hc mo hib cy3 (a := fst1 (ord (er m i) (c + 1))) rfl
    have hiM : ∀ d, i ∉ ord (er m i) d := fun d hm => by
      obtain ⟨k, hk, hm⟩ := mem_ord.1 hm
      exact ((mem_er mo hk).1 hm).1 rfl
    have cts : ∀ k, k < 4 → upd (upd (fun k => ((m k).length : Int)) w (((m w).length : Int) - 1)) c (((m c).length : Int) + 1) k = ((mv m i c k).length : Int) := fun k hk => by
      unfold mv
      by_cases e : k = c
      · subst e
        rw [upd_same, if_pos rfl, erase_not (hno k hk (Ne.symm hwc)), List.length_append]; simp
      · rw [upd_ne e, if_neg e]
        by_cases e' : k = w
        · subst e'
          rw [upd_same, len_er hi]
        · rw [upd_ne e', erase_not (hno k hk e')]
    have hds : ∀ k, k < 4 → k ≠ c → fst1 (er m i k) = fst1 (mv m i c k) := fun k hk e => by
      unfold mv er; rw [if_neg e]
    have cols : ∀ k, k < 4 → ∀ x, x ∈ mv m i c k → at' (co.set i.toNat c) x = k := fun k hk x hx => by
      rcases (mem_mv mo hk).1 hx with ⟨hxi, hx⟩ | ⟨hkc, hxi⟩
      · rw [at'_set i0 (mo.inn k x hk hx).1 (by rw [hco.2]; exact i1), if_neg hxi]; exact hcc k hk x hx
      · rw [at'_set i0 (by rw [hxi]; exact i0) (by rw [hco.2]; exact i1), if_pos hxi, hkc]
    have ev_to : ∀ {H4 : AHeap}, Evo a.r H' H4 → Evo a.d H H4 := fun ev4 =>
      (Evo.of_ch (D := a.d) ch2 (.inl rfl)).then (ev3.then ev4 fun _ _ h => h) fun x _ hx => by
        rcases hx with rfl | rfl | rfl
        · exact .inr (.inl rfl)
        · exact .inr (.inr (.inl rfl))
        · exact .inr (.inr (.inr (.inl rfl)))
    -- behind the ring
    have fin : ∀ {H4 : AHeap} {nx4 pv4 : List Int}, RingR H4 a.r a.rb a.xn a.xp N nx4 pv4 N → Cyc N nx4 pv4 (ord (mv m i c) 0) → Evo a.r H' H4 → H4.next = H'.next →
        ∃ H5 H6 H7, loadA H4 a.mb 1 1 = some [.slice (some (a.xc, 0)) 1 N c0] ∧ loadA H4 a.mb (6 + c) 1 = some [.int .i64 ((m c).length)] ∧ storeA H4 a.xc i.toNat [.int .i64 c] = some H5 ∧ loadA H5 a.mb (6 + c) 1 = some [.int .i64 ((m c).length)] ∧ storeA H5 a.mb (6 + c) [.int .i64 (((m c).length : Int) + 1)] = some H6 ∧ loadA H6 a.mb (6 + c) 1 = some [.int .i64 (((m c).length : Int) + 1)] ∧ storeA H6 a.mb (2 + c) [.int .i64 i] = some H7 ∧
          (m c = [] → MillR H7 a N (mv m i c) ∧ Evo a.d H H7 ∧ H7.next = H.next) ∧ (m c ≠ [] → MillR H6 a N (mv m i c) ∧ Evo a.d H H6 ∧ H6.next = H.next) := by
      intro H4 nx4 pv4 r4 cy4 ev4 nn4
      have get4 : ∀ x, ¬ a.r x → x < H'.next → H4.get x = H'.get x := fun x hx hl => ev4.2 x hl hx
      have b4 : MB H4 a c0 N _ _ := b3.keep' ev4.1 (get4 _ nr b3.1)
      have k4 := k3.keep ev4.1 (get4 _ nc k3.1.1)
      obtain ⟨H5, a5, k5, ch5⟩ := k4.st i0 i1 c
      have b5 : MB H5 a c0 N _ _ := b4.keep' (by rw [ch5.1]; exact Nat.le_refl _) (ch5.2 _ (by omega))
      obtain ⟨H6, a6, b6, ch6⟩ := b5.stC hc (((m c).length : Int) + 1)
      obtain ⟨H7, a7, b7, ch7⟩ := b6.stH hc i
      have m1 := b4.ldC hc
      have m2 := b5.ldC hc
      have m3 := b6.ldC hc
      rw [upd_ne (Ne.symm hwc)] at m1 m2
      rw [upd_same] at m3
      refine ⟨H5, H6, H7, b4.lds.2, m1, a5, m2, a6, m3, a7, ?_, ?_⟩
      · intro hm
        have r7 := r4.keep (H' := H7) (by rw [ch7.1, ch6.1, ch5.1]; exact Nat.le_refl _) fun x hx _ => by
          rw [ch7.2 x (by rcases hx with rfl | rfl | rfl <;> omega), ch6.2 x (by rcases hx with rfl | rfl | rfl <;> omega), ch5.2 x (by rcases hx with rfl | rfl | rfl <;> omega)]
        refine ⟨⟨⟨c0, b7.cg (fun k hk => ?_) fun k hk => cts k hk⟩, ⟨_, _, r7, cy4⟩, ⟨_, k5.keep (by rw [ch7.1, ch6.1]; exact Nat.le_refl _) (by rw [ch7.2 _ (by omega), ch6.2 _ (by omega)]), cols⟩, mo.mv hib hc, h.ne, h.n⟩, ?_, by rw [ch7.1, ch6.1, ch5.1, nn4, nn3, ch2.1]⟩
        · by_cases e : k = c
          · subst e
            rw [upd_same]
            unfold mv
            rw [if_pos rfl, hm]; rfl
          · rw [upd_ne e]; exact hds k hk e
        · exact (ev_to ev4).then ((Evo.of_ch ch5 (by simp [MA.d])).then ((Evo.of_ch (D := a.d) ch6 (.inl rfl)).then (Evo.of_ch ch7 (.inl rfl)) fun _ _ h => h) fun _ _ h => h) fun _ _ h => h
      · intro hm
        have r6 := r4.keep (H' := H6) (by rw [ch6.1, ch5.1]; exact Nat.le_refl _) fun x hx _ => by
          rw [ch6.2 x (by rcases hx with rfl | rfl | rfl <;> omega), ch5.2 x (by rcases hx with rfl | rfl | rfl <;> omega)]
        refine ⟨⟨⟨c0, b6.cg (fun k hk => ?_) fun k hk => cts k hk⟩, ⟨_, _, r6, cy4⟩, ⟨_, k5.keep (by rw [ch6.1]; exact Nat.le_refl _) (by rw [ch6.2 _ (by omega)]), cols⟩, mo.mv hib hc, h.ne, h.n⟩, ?_, by rw [ch6.1, ch5.1, nn4, nn3, ch2.1]⟩
        · by_cases e : k = c
          · subst e
            unfold mv er
            rw [if_pos rfl, erase_not (hno k hk (Ne.symm hwc))]
            cases hk' : m k with
            | nil => exact absurd hk' hm
            | cons _ _ => rfl
          · exact hds k hk e
        · exact (ev_to ev4).then ((Evo.of_ch ch5 (by simp [MA.d])).then (Evo.of_ch (D := a.d) ch6 (.inl rfl)) fun _ _ h => h) fun _ _ h => h
    have hcl : IntKind.i64.wrap (((m c).length : Int) + 1) = ((m c).length : Int) + 1 := wrap64 (by omega) (by omega)
    have hwN : ((N : Int) - 1 + 1) = N := by omega
    by_cases hemp : fst1 (ord (er m i) (c + 1)) = -1
    · obtain ⟨e0, cy4⟩ := in0 hemp
      have hN1 : (N : Int) - 1 = 0 := by
        have h1 := mo.ord_er i (c + 1)
        rw [e0] at h1
        have h2 : (ord m (c + 1)).length = N := mo.total (c + 1)
        have h3 : ((ord m (c + 1)).erase i).length = (ord m (c + 1)).length - 1 := List.length_erase_of_mem (mem_ord.2 ⟨w, hw, hi⟩)
        rw [h1] at h3
        have : (N : Int) ≠ 0 := by omega
        simp at h3; omega
      rw [hN1] at r3
      rw [hemp]
      have cy3' := cy3.ordC (c + 1)
      rw [e0] at cy3'
      simp -implicitDefEqProofs only [eqA, eqD, go_sem]
      refine CW.mono (c_rIn0 r3 cy3' hib) ?_
      rintro v H4 ⟨rfl, r4, ev4, nn4⟩
      have hN' : (1 : Int) = (N : Int) := by omega
      rw [hN'] at r4
      obtain ⟨H5, H6, H7, q1, q2, q3, q4, q5, q6, q7, q8, q9⟩ := fin r4 cy4 ev4 nn4
      by_cases hmc : m c = []
      · have e1 : ((m c).length : Int) + 1 = 1 := by rw [hmc]; rfl
        have q6' := q6
        rw [e1] at q6'
        simp -implicitDefEqProofs only [g0, g1, g2, i0, i1, cc0, cc4, l31.1, q1, q2, q3, q4, hcl, q5, q6', q7, eqA, eqD, go_sem]
        exact q8 hmc
      · have e1 : (((m c).length : Int) + 1 == 1) = false := by
          have := List.length_pos_iff.2 hmc
          simp; omega
        simp -implicitDefEqProofs only [g0, g1, g2, i0, i1, cc0, cc4, l31.1, q1, q2, q3, q4, hcl, q5, q6, e1, Bool.false_eq_true, eqA, eqD, go_sem]
        exact q9 hmc
    · obtain ⟨ha1, ha2, ha3, ha4, cy4⟩ := in1 hemp
      have cy3' := cy3.ordC (c + 1)
      have hmem : fst1 (ord (er m i) (c + 1)) ∈ ord (er m i) (c + 1) := by
        cases ho : ord (er m i) (c + 1) with
        | nil => rw [ho] at hemp; exact absurd rfl hemp
        | cons x l => simp [fst1]
      simp -implicitDefEqProofs only [eqA, eqD, go_sem]
      refine CW.mono (c_rIn1 r3 cy3' hib (hiM _) hmem ha3 (by omega)) ?_
      rintro v H4 ⟨rfl, r4, ev4, nn4⟩
      rw [hwN] at r4
      obtain ⟨H5, H6, H7, q1, q2, q3, q4, q5, q6, q7, q8, q9⟩ := fin r4 cy4 ev4 nn4
      by_cases hmc : m c = []
      · have e1 : ((m c).length : Int) + 1 = 1 := by rw [hmc]; rfl
        have q6' := q6
        rw [e1] at q6'
        simp -implicitDefEqProofs only [g0, g1, g2, i0, i1, cc0, cc4, l31.1, q1, q2, q3, q4, hcl, q5, q6', q7, eqA, eqD, go_sem]
        exact q8 hmc
      · have e1 : (((m c).length : Int) + 1 == 1) = false := by
          have := List.length_pos_iff.2 hmc
          simp; omega
        simp -implicitDefEqProofs only [g0, g1, g2, i0, i1, cc0, cc4, l31.1, q1, q2, q3, q4, hcl, q5, q6, e1, Bool.false_eq_true, eqA, eqD, go_sem]
        exact q9 hmc
set_option maxHeartbeats 4000000
def inC (n : Int) : List AV := [.int .i64 n]
abbrev InE := EncE inC I64
def RowI (n0 : Nat) (H : AHeap) (v : AV) (l : List Int) : Prop := (l = [] ∧ ∃ s0 cl, v = .slice none s0 0 cl) ∨ ∃ x cl, v = .slice (some (x, 0)) 1 l.length cl ∧ n0 ≤ x ∧ Rd H x 0 (l.map iv)
theorem RowI.keep {n0 : Nat} {H H' : AHeap} {v : AV} {l : List Int} (h : RowI n0 H v l) (hl : H.next ≤ H'.next) (hg : ∀ x, n0 ≤ x → x < H.next → H'.get x = H.get x) : RowI n0 H' v l := by
  rcases h with h | ⟨x, cl, e, hx, hr⟩
  · exact .inl h
  · exact .inr ⟨x, cl, e, hx, hr.keep hl (hg x hx hr.1)⟩
theorem RowI.shape {n0 : Nat} {H : AHeap} {v : AV} {l : List Int} (h : RowI n0 H v l) : ∃ a s0 cl, v = .slice a s0 l.length cl := by
  rcases h with ⟨rfl, s0, cl, rfl⟩ | ⟨x, cl, e, -⟩
  · exact ⟨_, _, _, rfl⟩
  · exact ⟨_, _, _, e⟩
theorem RowI.at {n0 : Nat} {H : AHeap} {a : Option (Nat × Nat)} {s0 n : Nat} {cl : Bool} {l : List Int} (h : RowI n0 H (.slice a s0 n cl) l) {j : Nat} (hj : j < l.length) : ∃ x, a = some (x, 0) ∧ n0 ≤ x ∧ loadA H x j 1 = some [.int .i64 l[j]] := by
  rcases h with ⟨rfl, -⟩ | ⟨x, cl', e, hx, hr⟩
  · simp at hj
  · cases e
    refine ⟨x, rfl, hx, ?_⟩
    have := hr.one (j := j) (v := iv l[j]) (by rw [List.getElem?_map, List.getElem?_eq_getElem hj]; rfl)
    rwa [Nat.zero_add] at this
theorem SlE.rdI {H : AHeap} {l : List Int} {x o n : Nat} {cl : Bool} (h : SlE InE 1 H l [.slice (some (x, o)) 1 n cl]) (h0 : l.length ≠ 0) : Rd H x o (l.map iv) := by
  obtain ⟨a', s0', cl', e, k0, k1, k⟩ := h
  cases e
  obtain ⟨x', o', cs, e, hr, hl, hj⟩ := k h0
  cases e
  have : cs = l.map iv := by
    apply List.ext_getElem
    · rw [hl]; simp
    · intro j h1 h2
      rw [List.length_map] at h2
      obtain ⟨q, -⟩ := hj j h2
      rw [Nat.mul_one] at q
      have : ((cs.drop j).take 1)[0]? = (inC l[j])[0]? := by rw [q]
      rw [List.getElem?_take, if_pos (by omega), List.getElem?_drop, Nat.add_zero, List.getElem?_eq_getElem h1] at this
      rw [List.getElem_map]
      exact Option.some.inj this
  rw [← this]; exact hr
theorem Rd.slI {H : AHeap} {l : List Int} {x n : Nat} {cl : Bool} (h : Rd H x 0 (l.map iv)) (hn : n = l.length) (hm : l.length ≤ maxLen) (hok : ∀ i, i ∈ l → I64 i) : SlE InE 1 H l [.slice (some (x, 0)) 1 n cl] :=
  SlE.new MonoE.enc h hn (by simp) hm fun j hj => by
    refine ⟨?_, hok _ (List.getElem_mem hj)⟩
    rw [Nat.mul_one, ← List.map_drop, ← List.map_take, List.drop_eq_getElem_cons hj]; rfl
section
variable {H : AHeap} {a : MA} {N : Nat} {m : Ml}
theorem MillR.fst (h : MillR H a N m) {k : Nat} (hk : k < 4) : (m k = [] ∧ ¬ 0 ≤ fst1 (m k)) ∨ ∃ i l, m k = i :: l ∧ fst1 (m k) = i ∧ 0 ≤ i ∧ i < N := by
  cases hm : m k with
  | nil => exact .inl ⟨rfl, by simp [fst1]⟩
  | cons i l => exact .inr ⟨i, l, rfl, rfl, h.ok.inn k i hk (by rw [hm]; simp)⟩
theorem MillR.evo (h : MillR H a N m) : MillR H a N m ∧ Evo a.d H H := ⟨h, Evo.refl _ _⟩
theorem c_mAlloc (h : MillR H a N m) : CW MN 45 [.ptr (some (a.mb, 0))] H fun v H' => v = .int .i64 (alM m).1 ∧ MillR H' a N (alM m).2 ∧ Evo a.d H H' ∧ H'.next = H.next := by
  refine CW_of (fn := af45) rfl ?_
  dsimp only [af45, qm, q, qG, qn, qi, qb, qB, qk, qc, qo, qg, qv, qr]
  obtain ⟨c0, hb⟩ := h.blk
  have l0 := hb.ldH (k := 0) (by omega)
  unfold alM
  rcases h.fst (k := 0) (by omega) with ⟨hm, hf⟩ | ⟨i, l, hm, hf, i0, i1⟩
  · rw [hm] at hf l0
    rw [hm]
    simp -implicitDefEqProofs only [l0, hf, Bool.false_eq_true, eqA, eqD, go_sem]
    exact ⟨rfl, h.evo⟩
  · rw [hf] at l0
    rw [hm]
    simp -implicitDefEqProofs only [l0, i0, eqA, eqD, go_sem]
    refine CW.mono (c_move h (w := 0) (c := 1) (by omega) (by rw [hm]; simp) (by omega) (by omega)) ?_
    rintro v H' hh
    simp -implicitDefEqProofs only [eqA, eqD, go_sem]
    exact hh
theorem c_mScan (h : MillR H a N m) : CW MN 65 [.ptr (some (a.mb, 0))] H fun v H' => v = .int .i64 (scM m).1 ∧ MillR H' a N (scM m).2 ∧ Evo a.d H H' ∧ H'.next = H.next := by
  refine CW_of (fn := af65) rfl ?_
  dsimp only [af65, qm, q, qG, qn, qi, qb, qB, qk, qc, qo, qg, qv, qr]
  obtain ⟨c0, hb⟩ := h.blk
  have l0 := hb.ldH (k := 2) (by omega)
  unfold scM
  rcases h.fst (k := 2) (by omega) with ⟨hm, hf⟩ | ⟨i, l, hm, hf, i0, i1⟩
  · rw [hm] at hf l0
    rw [hm]
    simp -implicitDefEqProofs only [l0, hf, Bool.false_eq_true, eqA, eqD, go_sem]
    exact ⟨rfl, h.evo⟩
  · rw [hf] at l0
    rw [hm]
    simp -implicitDefEqProofs only [l0, i0, eqA, eqD, go_sem]
    refine CW.mono (c_move h (w := 2) (c := 1) (by omega) (by rw [hm]; simp) (by omega) (by omega)) ?_
    rintro v H' hh
    simp -implicitDefEqProofs only [eqA, eqD, go_sem]
    exact hh
theorem MlOk.col_no (mo : MlOk N m) {i : Int} (h : ¬ (0 ≤ i ∧ i < N)) : colM m i = -1 := by
  have : ∀ k, k < 4 → i ∉ m k := fun k hk hm => h (mo.inn k i hk hm)
  unfold colM
  rw [if_neg (this 0 (by omega)), if_neg (this 1 (by omega)), if_neg (this 2 (by omega)), if_neg (this 3 (by omega))]
theorem col_iff (mo : MlOk N m) {k : Nat} (hk : k < 4) {c : Int} : colM m c = k ↔ c ∈ m k := by
  constructor
  · intro e
    by_cases hb : 0 ≤ c ∧ c < N
    · obtain ⟨j, hj, hc⟩ := mo.all c hb.1 hb.2
      have := colM_eq mo hj hc
      have : j = k := by omega
      rw [← this]; exact hc
    · rw [mo.col_no hb] at e; omega
  · exact colM_eq mo hk
theorem c_mColor (h : MillR H a N m) (i : Int) : CW MN 80 [.ptr (some (a.mb, 0)), .int .i64 i] H fun v H' => v = .int .i64 (colM m i) ∧ H' = H := by
  refine CW_of (fn := af80) rfl ?_
  dsimp only [af80, qm, q, qG, qn, qi, qb, qB, qk, qc, qo, qg, qv, qr]
  obtain ⟨c0, hb⟩ := h.blk
  obtain ⟨co, hco, hcc⟩ := h.col
  have l1 := hb.lds.2
  by_cases h0 : i < 0
  · rw [h.ok.col_no (by omega)]
    simp -implicitDefEqProofs only [h0, eqA, eqD, go_sem]
  · have h0' : 0 ≤ i := by omega
    by_cases h1 : (N : Int) ≤ i
    · rw [h.ok.col_no (by omega)]
      simp -implicitDefEqProofs only [h0, h1, l1, Bool.false_eq_true, eqA, eqD, go_sem]
    · have h1' : i < (N : Int) := by omega
      obtain ⟨k, hk, hi⟩ := h.ok.all i h0' h1'
      rw [colM_eq h.ok hk hi, ← hcc k hk i hi]
      simp -implicitDefEqProofs only [h0, h1, h0', h1', l1, hco.ld h0' h1', Bool.false_eq_true, eqA, eqD, go_sem]
theorem c_mShade (h : MillR H a N m) (i : Int) : CW MN 87 [.ptr (some (a.mb, 0)), .int .i64 i] H fun v H' => v = .bool (decide (i ∈ m 3)) ∧ MillR H' a N (shM m i) ∧ Evo a.d H H' ∧ H'.next = H.next := by
  refine CW_of (fn := af87) rfl ?_
  dsimp only [af87, qm, q, qG, qn, qi, qb, qB, qk, qc, qo, qg, qv, qr]
  simp -implicitDefEqProofs only [eqA, eqD, go_sem]
  refine CW.mono (c_mColor h i) ?_
  rintro v H' ⟨rfl, rfl⟩
  by_cases hi : i ∈ m 3
  · have e : (colM m i != 3) = false := by
      have := (col_iff h.ok (k := 3) (by omega)).2 hi
      simp only [bne_eq_false_iff_eq]; exact this
    unfold shM
    simp -implicitDefEqProofs only [e, hi, Bool.false_eq_true, eqA, eqD, go_sem]
    refine CW.mono (c_move h (w := 3) (c := 2) (by omega) hi (by omega) (by omega)) ?_
    rintro v H' hh
    simp -implicitDefEqProofs only [eqA, eqD, go_sem]
    exact hh
  · have e : (colM m i != 3) = true := by
      rw [bne_iff_ne]
      exact fun e => hi ((col_iff h.ok (k := 3) (by omega)).1 e)
    unfold shM
    simp -implicitDefEqProofs only [e, hi, Bool.false_eq_true, eqA, eqD, go_sem]
    exact h.evo
theorem c_mCount (h : MillR H a N m) {k : Nat} (hk : k < 4) : CW MN 90 [.ptr (some (a.mb, 0)), .int .i64 k] H fun v H' => v = .int .i64 (m k).length ∧ H' = H := by
  refine CW_of (fn := af90) rfl ?_
  dsimp only [af90, qm, q, qG, qn, qi, qb, qB, qk, qc, qo, qg, qv, qr]
  obtain ⟨c0, hb⟩ := h.blk
  have l1 := hb.ldC hk
  have k0 : ¬ (k : Int) < 0 := by omega
  have k4 : ¬ (4 : Int) ≤ k := by omega
  have k0' : (0 : Int) ≤ k := by omega
  have k4' : (k : Int) < 4 := by omega
  simp -implicitDefEqProofs only [k0, k4, k0', k4', l1, Bool.false_eq_true, eqA, eqD, go_sem]
theorem c_mList (h : MillR H a N m) {k : Nat} (hk : k < 4) : CW MN 91 [.ptr (some (a.mb, 0)), .int .i64 k] H fun v H' => RowI H.next H' v (m k) ∧ Sm H H' := by
  refine CW_of (fn := af91) rfl ?_
  dsimp only [af91, qm, q, qG, qn, qi, qb, qB, qk, qc, qo, qg, qv, qr]
  obtain ⟨c0, hb⟩ := h.blk
  obtain ⟨nx, pv, hr, hcy⟩ := h.ring
  have l0 := hb.lds.1
  have lh := hb.ldH hk
  have lc := hb.ldC hk
  have k0' : (0 : Int) ≤ k := by omega
  have k4' : (k : Int) < 4 := by omega
  simp -implicitDefEqProofs only [eqA, eqD, go_sem]
  refine CW.mono (c_mCount h hk) ?_
  rintro v H' ⟨rfl, rfl⟩
  rcases h.fst hk with ⟨hm, hf⟩ | ⟨i, l, hm, hf, i0, i1⟩
  · have e : ((m k).length : Int) = 0 := by rw [hm]; rfl
    simp -implicitDefEqProofs only [e, eqA, eqD, go_sem]
    exact ⟨.inl ⟨hm, _, _, rfl⟩, Chg.refl _⟩
  · have e : (((m k).length : Int) == 0) = false := by rw [hm]; simp; omega
    rw [hf] at lh
    have cy := hcy.ordC k
    have hord : ∃ r, ord m k = i :: (l ++ r) := by
      unfold ord
      rw [Nat.mod_eq_of_lt hk, hm]
      exact ⟨_, rfl⟩
    obtain ⟨r, hord⟩ := hord
    rw [hord] at cy
    have hN := h.n
    simp -implicitDefEqProofs only [e, k0', k4', l0, lh, Bool.false_eq_true, eqA, eqD, go_sem]
    refine CW.mono (c_rFrom hr cy (by omega)) ?_
    rintro v H1 ⟨⟨x, rfl, hrd, hx⟩, s1⟩
    have hb1 : MB H1 a c0 N _ _ := hb.keep' s1.1 (s1.gt hb.1)
    have lc1 := hb1.ldC hk
    have hle : (m k).length ≤ (i :: (l ++ r)).length := by rw [hm]; simp
    have e1 := slA_pre (x := x) (o := 0) (s := 1) (n := (i :: (l ++ r)).length) (k := (m k).length) (cl := true) hle
    have l01 := hb1.lds.1
    have lh1 := hb1.ldH hk
    generalize hn : (i :: (l ++ r)).length = n at *
    simp -implicitDefEqProofs only [e, k0', k4', l0, lh, l01, lh1, lc, lc1, e1, eqA, eqD, go_sem]
    have hrd' : Rd H1 x 0 ((m k).map iv) := by
      have := hrd.pre (m k).length
      rwa [← List.map_take, show (i :: (l ++ r)).take (m k).length = m k by rw [hm]; simp] at this
    have okN : ∀ j, j ∈ m k → I64 j := fun j hj => by
      have := h.ok.inn k j hk hj
      unfold I64; omega
    have lenN : (m k).length ≤ N := cells_le (h.ok.nd k hk) fun j hj => h.ok.inn k j hk hj
    have hmx : (m k).length ≤ maxLen := by unfold maxLen; omega
    refine CW.mono (c_clone (f := 100) (s := 1) (bytes := 8) (by rfl) MonoE.enc (hrd'.slI rfl hmx okN) (by omega) (by omega)) ?_
    rintro u H2 ⟨s2, hs2, ow2⟩
    simp -implicitDefEqProofs only [eqA, eqD, go_sem]
    refine CW.mono (c_clip (f := 93) (by rfl) hs2) ?_
    rintro u2 H3 ⟨rfl, hs3, ow3⟩
    have ow := ow3 _ ow2
    simp -implicitDefEqProofs only [e, k0', k4', l0, lh, l01, lh1, lc, lc1, e1, eqA, eqD, go_sem]
    have : (m k).length ≠ 0 := by rw [hm]; simp
    rcases ow with ⟨h0, -⟩ | ⟨y, cl, cs, rfl, hy, -⟩
    · exact absurd h0 this
    · exact ⟨.inr ⟨y, cl, rfl, by have := s1.1; omega, hs3.rdI this⟩, s1.trans s2⟩
end
set_option maxHeartbeats 4000000
theorem ord_congr {m m' : Ml} (e : ∀ k, k < 4 → m k = m' k) (c : Nat) : ord m c = ord m' c := by
  unfold ord
  rw [e _ (Nat.mod_lt _ (by omega)), e _ (Nat.mod_lt _ (by omega)), e _ (Nat.mod_lt _ (by omega)), e _ (Nat.mod_lt _ (by omega))]
theorem MlOk.congr {N : Nat} {m m' : Ml} (h : MlOk N m) (e : ∀ k, k < 4 → m k = m' k) : MlOk N m' :=
  ⟨fun k hk => e k hk ▸ h.nd k hk, fun j k i hj hk h1 h2 => h.dis j k i hj hk (by rw [e j hj]; exact h1) (by rw [e k hk]; exact h2), fun k i hk hi => h.inn k i hk (by rw [e k hk]; exact hi), fun i h0 h1 => by
    obtain ⟨k, hk, hi⟩ := h.all i h0 h1
    exact ⟨k, hk, by rw [← e k hk]; exact hi⟩⟩
theorem MillR.congr {H : AHeap} {a : MA} {N : Nat} {m m' : Ml} (h : MillR H a N m) (e : ∀ k, k < 4 → m k = m' k) : MillR H a N m' := by
  obtain ⟨c0, hb⟩ := h.blk
  obtain ⟨nx, pv, hr, hcy⟩ := h.ring
  obtain ⟨co, hco, hcc⟩ := h.col
  exact ⟨⟨c0, hb.cg (fun k hk => by rw [e k hk]) fun k hk => by rw [e k hk]⟩, ⟨nx, pv, hr, by rw [← ord_congr e 0]; exact hcy⟩, ⟨co, hco, fun k hk i hi => hcc k hk i (by rw [e k hk]; exact hi)⟩, h.ok.congr e, h.ne, h.n⟩
theorem mvN_flip {m : Ml} : ∀ k, k < 4 → mvN (mvN m 3 0 (m 3).length) 1 3 (m 1).length k = flM m k := by
  intro k hk
  unfold mvN flM
  match k, hk with
  | 0, _ => simp
  | 1, _ => simp
  | 2, _ => simp
  | 3, _ => simp
theorem mvN_at {N : Nat} {m : Ml} (ok : MlOk N m) {a b j : Nat} (hab : a ≠ b) {i : Int} (hj : (m a)[j]? = some i) : i ∈ mvN m a b j a := by
  unfold mvN
  rw [if_neg hab, if_pos rfl]
  obtain ⟨h1, h2⟩ := List.getElem?_eq_some_iff.1 hj
  rw [List.drop_eq_getElem_cons h1, h2]; simp
section
variable {H : AHeap} {a : MA} {N : Nat} {m : Ml}
theorem c_mFlip (h : MillR H a N m) (hg : m 2 = []) : CW MN 69 [.ptr (some (a.mb, 0))] H fun v H' => RowI H.next H' v (m 3) ∧ MillR H' a N (flM m) ∧ Evo a.d H H' := by
  refine CW_of (fn := af69) rfl ?_
  dsimp only [af69, qm, q, qG, qn, qi, qb, qB, qk, qc, qo, qg, qv, qr]
  obtain ⟨c0, hb⟩ := h.blk
  have lc := hb.ldC (k := 2) (by omega)
  have e0 : (((m 2).length : Nat) : Int) = 0 := by rw [hg]; rfl
  rw [e0] at lc
  have dlt : ∀ x, a.d x → x < H.next := fun x hx => h.lt hx
  have lens : ∀ k, k < 4 → (m k).length ≤ N := fun k hk => cells_le (h.ok.nd k hk) fun x hx => h.ok.inn k x hk hx
  have l3 := lens 3 (by omega)
  have l1 := lens 1 (by omega)
  have hN := h.n
  have c3 : ((3 : Nat) : Int) = 3 := rfl
  simp -implicitDefEqProofs only [lc, Int.lt_irrefl, Bool.false_eq_true, eqA, eqD, go_sem]
  refine CW.mono (c_mList h (k := 3) (by omega)) ?_
  rintro v H1 ⟨r1, s1⟩
  have h1 : MillR H1 a N m := h.keep s1.1 fun x hx => s1.gt (dlt x hx)
  obtain ⟨a1, s0, cl, rfl⟩ := r1.shape
  simp -implicitDefEqProofs only [eqA, eqD, go_sem]
  refine WP_mono (Q := fun ex fr H2 => ex = .exit 0 ∧ fr.get 0 = some (.ptr (some (a.mb, 0))) ∧ fr.get 3 = some (.slice a1 s0 (m 3).length cl) ∧ MillR H2 a N (mvN m 3 0 (m 3).length) ∧ Evo a.d H1 H2) ?_ (WP_loop (fun n fr H2 => ∃ j : Nat, n = (m 3).length - j ∧ j ≤ (m 3).length ∧ fr.get 0 = some (.ptr (some (a.mb, 0))) ∧ fr.get 3 = some (.slice a1 s0 (m 3).length cl) ∧ fr.get 16 = some (.slice a1 s0 (m 3).length cl) ∧ fr.get 17 = some (.int .i64 (m 3).length) ∧ fr.get 18 = some (.int .i64 j) ∧ MillR H2 a N (mvN m 3 0 j) ∧ Evo a.d H1 H2) (m 3).length ?_ ?_)
  rotate_left
  · refine ⟨0, rfl, by omega, ?_⟩
    simp -implicitDefEqProofs only [eqA, eqD, go_sem]
    exact ⟨h1.congr fun k hk => by rw [mvN_0 (by omega)], Evo.refl _ _⟩
  · rintro n fr H2 ⟨j, hn, hj, g0, g3, g16, g17, g18, h2, ev⟩
    have j0 : (0 : Int) ≤ j := by omega
    by_cases hlt : j < (m 3).length
    · have hlt' : (j : Int) < ((m 3).length : Int) := by omega
      have hw := wrapS hlt (by omega)
      have r2 := r1.keep (H' := H2) ev.1 fun x hx hl => ev.2 x hl fun hd => by have := dlt x hd; omega
      obtain ⟨x, rfl, -, ld⟩ := r2.at hlt
      simp -implicitDefEqProofs only [g0, g3, g16, g17, g18, hlt', j0, ld, Nat.zero_add, eqA, eqD, go_sem]
      refine CW.mono (c_move h2 (w := 3) (c := 0) (by omega) (mvN_at h.ok (by omega) (List.getElem?_eq_getElem hlt)) (by omega) (by omega)) ?_
      rintro v H3 ⟨h3, ev3, nn3⟩
      simp -implicitDefEqProofs only [g0, g3, g16, g17, g18, hw, eqA, eqD, go_sem]
      exact ⟨(m 3).length - (j + 1), by omega, j + 1, rfl, by omega, rfl, h3.congr (mvN_succ h.ok (by omega) (by omega) (by omega) (List.getElem?_eq_getElem hlt)), ev.then ev3 fun _ _ h => h⟩
    · obtain rfl : j = (m 3).length := by omega
      simp -implicitDefEqProofs only [g0, g3, g16, g17, g18, Int.lt_irrefl, Bool.false_eq_true, eqA, eqD, go_sem]
      exact ⟨h2, ev⟩
  · rintro ex fr H2 ⟨rfl, g0, g3, h2, ev2⟩
    generalize hm' : mvN m 3 0 (m 3).length = m' at *
    have em1 : m' 1 = m 1 := by rw [← hm']; simp [mvN]
    have dlt2 : ∀ x, a.d x → x < H2.next := fun x hx => h2.lt hx
    simp -implicitDefEqProofs only [g0, g3, eqA, eqD, go_sem]
    refine CW.mono (c_mList h2 (k := 1) (by omega)) ?_
    rintro v H3 ⟨r3, s3⟩
    have h3 : MillR H3 a N m' := h2.keep s3.1 fun x hx => s3.gt (dlt2 x hx)
    obtain ⟨a3, s3', cl3, rfl⟩ := r3.shape
    rw [em1] at r3 ⊢
    simp -implicitDefEqProofs only [g0, g3, eqA, eqD, go_sem]
    refine WP_mono (Q := fun ex fr H4 => ex = .exit 2 ∧ fr.get 3 = some (.slice a1 s0 (m 3).length cl) ∧ MillR H4 a N (mvN m' 1 3 (m 1).length) ∧ Evo a.d H3 H4) ?_ (WP_loop (fun n fr H4 => ∃ j : Nat, n = (m 1).length - j ∧ j ≤ (m 1).length ∧ fr.get 0 = some (.ptr (some (a.mb, 0))) ∧ fr.get 3 = some (.slice a1 s0 (m 3).length cl) ∧ fr.get 27 = some (.slice a3 s3' (m 1).length cl3) ∧ fr.get 28 = some (.int .i64 (m 1).length) ∧ fr.get 29 = some (.int .i64 j) ∧ MillR H4 a N (mvN m' 1 3 j) ∧ Evo a.d H3 H4) (m 1).length ?_ ?_)
    rotate_left
    · refine ⟨0, rfl, by omega, ?_⟩
      simp -implicitDefEqProofs only [g0, g3, eqA, eqD, go_sem]
      exact ⟨h3.congr fun k hk => by rw [mvN_0 (by omega)], Evo.refl _ _⟩
    · rintro n fr H4 ⟨j, hn, hj, g0, g3, g27, g28, g29, h4, ev⟩
      have j0 : (0 : Int) ≤ j := by omega
      by_cases hlt : j < (m 1).length
      · have hlt' : (j : Int) < ((m 1).length : Int) := by omega
        have hw := wrapS hlt (by omega)
        have r4 := r3.keep (H' := H4) ev.1 fun x hx hl => ev.2 x hl fun hd => by have := dlt2 x hd; omega
        obtain ⟨x, rfl, -, ld⟩ := r4.at hlt
        simp -implicitDefEqProofs only [g0, g3, g27, g28, g29, hlt', j0, ld, Nat.zero_add, eqA, eqD, go_sem]
        refine CW.mono (c_move h4 (w := 1) (c := 3) (by omega) (mvN_at h3.ok (by omega) (by rw [em1]; exact List.getElem?_eq_getElem hlt)) (by omega) (by omega)) ?_
        rintro v H5 ⟨h5, ev5, nn5⟩
        simp -implicitDefEqProofs only [g0, g3, g27, g28, g29, hw, eqA, eqD, go_sem]
        exact ⟨(m 1).length - (j + 1), by omega, j + 1, rfl, by omega, rfl, h5.congr (mvN_succ h3.ok (by omega) (by omega) (by omega) (by rw [em1]; exact List.getElem?_eq_getElem hlt)), ev.then ev5 fun _ _ h => h⟩
      · obtain rfl : j = (m 1).length := by omega
        simp -implicitDefEqProofs only [g0, g3, g27, g28, g29, Int.lt_irrefl, Bool.false_eq_true, eqA, eqD, go_sem]
        exact ⟨h4, ev⟩
    · rintro ex fr H4 ⟨rfl, g3, h4, ev4⟩
      simp -implicitDefEqProofs only [g3, eqA, eqD, go_sem]
      have evA : Evo a.d H H2 := (Evo.of_sm s1).then ev2 fun _ _ h => h
      have evB : Evo a.d H2 H4 := (Evo.of_sm s3).then ev4 fun _ _ h => h
      refine ⟨r1.keep (by have := ev2.1; have := evB.1; omega) fun x hx hl => ?_, h4.congr fun k hk => by rw [← hm']; exact mvN_flip k hk, evA.then evB fun _ _ h => h⟩
      have hnd : ¬ a.d x := fun hd => by have := dlt x hd; omega
      rw [evB.2 x (by have := ev2.1; omega) hnd, ev2.2 x hl hnd]
end
set_option maxHeartbeats 4000000
theorem Lnk.of {R : Int → Int → Prop} : ∀ {l : List Int}, (∀ k (h : k + 1 < l.length), R (l[k]'(by omega)) l[k + 1]) → Lnk R l
  | [], _ => trivial
  | [_], _ => trivial
  | x :: y :: l, h => ⟨h 0 (by simp), Lnk.of fun k hk => h (k + 1) (by simpa using hk)⟩
def rng (N : Nat) : List Int := (List.range N).map fun i : Nat => (i : Int)
theorem rng_len (N : Nat) : (rng N).length = N := by simp [rng]
theorem mem_rng {N : Nat} {x : Int} : x ∈ rng N ↔ 0 ≤ x ∧ x < N := by
  unfold rng
  rw [List.mem_map]
  constructor
  · rintro ⟨i, hi, rfl⟩
    rw [List.mem_range] at hi; omega
  · rintro ⟨h0, h1⟩
    exact ⟨x.toNat, by rw [List.mem_range]; omega, by omega⟩
theorem rng_nodup (N : Nat) : (rng N).Nodup := by
  unfold rng
  rw [List.nodup_iff_pairwise_ne, List.pairwise_map]
  exact (List.nodup_range (n := N)).imp fun h e => h (by omega)
def frow (N : Nat) (f : Nat → Int) : List Int := (List.range N).map f
theorem frow_set {N k : Nat} {f : Nat → Int} {v : Int} : (frow N f).set k v = frow N (upd f k v) := by
  apply List.ext_getElem
  · simp [frow]
  · intro i h1 h2
    simp only [frow, List.getElem_set, List.getElem_map, List.getElem_range]
    unfold upd
    by_cases e : k = i
    · rw [if_pos e, if_pos e.symm]
    · rw [if_neg e, if_neg (Ne.symm e)]
theorem frow_at {N : Nat} {f : Nat → Int} {i : Int} (h0 : 0 ≤ i) (h1 : i < N) : at' (frow N f) i = f i.toNat := by
  unfold at' frow
  rw [List.getD_eq_getElem?_getD, List.getElem?_map, List.getElem?_range (by omega)]; rfl
theorem cyc_new {N : Nat} (hN : 0 < N) : Cyc N (frow N fun i => ((i + 1) % N : Nat)) (frow N fun i => ((i + N - 1) % N : Nat)) (rng N) := by
  refine ⟨by simp [frow], by simp [frow], rng_nodup N, fun x hx => mem_rng.1 hx, fun x h0 h1 hx => absurd (mem_rng.2 ⟨h0, h1⟩) hx, ?_⟩
  have hd : hd1 (rng N) = [0] := by
    obtain ⟨M, rfl⟩ : ∃ M, N = M + 1 := ⟨N - 1, by omega⟩
    unfold hd1 rng
    rw [List.range_succ_eq_map]; rfl
  unfold Rg
  rw [hd]
  refine Lnk.of fun k hk => ?_
  rw [List.length_append, rng_len] at hk
  have hk' : k < N := by simpa using hk
  have g : ∀ j (hj : j < (rng N ++ [0]).length), j < N → (rng N ++ [(0 : Int)])[j] = (j : Int) := fun j hj hjn => by
    rw [List.getElem_append_left (by rw [rng_len]; exact hjn)]
    simp [rng]
  rw [g k _ hk']
  by_cases e : k + 1 < N
  · rw [g (k + 1) _ e, frow_at (by omega) (by omega), frow_at (by omega) (by omega)]
    refine ⟨?_, ?_⟩
    · rw [Int.toNat_natCast, Nat.mod_eq_of_lt e]
    · rw [Int.toNat_natCast, show k + 1 + N - 1 = k + N by omega, Nat.add_mod_right, Nat.mod_eq_of_lt hk']
  · have e0 : k + 1 = N := by omega
    have : (rng N ++ [(0 : Int)])[k + 1]'(by rw [List.length_append, rng_len]; exact hk) = 0 := by
      rw [List.getElem_append_right (by rw [rng_len]; omega)]
      simp
    rw [this, frow_at (by omega) (by omega), frow_at (by omega) (by omega)]
    refine ⟨?_, ?_⟩
    · rw [Int.toNat_natCast, e0, Nat.mod_self]; rfl
    · rw [Int.toNat_zero, Nat.zero_add, Nat.mod_eq_of_lt (by omega)]; omega
theorem rep1 {N : Nat} {x : AV} : (List.replicate N [x]).flatten = List.replicate N x := by
  induction N with
  | zero => rfl
  | succ N ih => rw [List.replicate_succ, List.replicate_succ, List.flatten_cons, ih]; rfl
theorem IR.new (H : AHeap) (N : Nat) : IR (H.newRow (List.replicate N (.int .i64 0))) H.next N (frow N fun _ => 0) := by
  refine ⟨?_, by simp [frow]⟩
  have := Blk.newRow H (List.replicate N (AV.int .i64 0)) (fun i => iv ((frow N fun _ => 0).getD i 0)) fun i v hv => by
    have hl := (List.getElem?_eq_some_iff.1 hv).1
    rw [List.length_replicate] at hl
    rw [List.getElem?_replicate, if_pos hl] at hv
    have e := frow_at (N := N) (f := fun _ => 0) (i := (i : Int)) (by omega) (by omega)
    unfold at' at e
    rw [Int.toNat_natCast] at e
    rw [e]
    exact Option.some.inj hv
  rwa [List.length_replicate] at this
section
variable {H : AHeap} {N : Nat}
theorem c_rNew (h1 : 1 ≤ N) (h2 : N ≤ 4096) : CW MN 81 [.int .i64 N] H fun v H' => ∃ b xn xp nx pv, v = .ptr (some (b, 0)) ∧ RingR H' (fun x => x = b ∨ x = xn ∨ x = xp) b xn xp N nx pv N ∧ Cyc N nx pv (rng N) ∧ Sm H H' ∧ H.next ≤ b ∧ H.next ≤ xn ∧ H.next ≤ xp := by
  refine CW_of (fn := af81) rfl ?_
  dsimp only [af81, qm, q, qG, qn, qi, qb, qB, qk, qc, qo, qg, qv, qr]
  have i1 : ¬ (N : Int) < 1 := by omega
  have i2 : ¬ (4096 : Int) < N := by omega
  have i3 : (0 : Int) ≤ N := by omega
  have i4 : (N : Int) * 8 ≤ 140737488355328 := by omega
  have i5 : (N : Int) ≤ 9223372036854775807 := by omega
  have k1 := IR.new H N
  have s1 := Chg.newRow H (List.replicate N (AV.int .i64 0))
  have n1 : (H.newRow (List.replicate N (AV.int .i64 0))).next = H.next + 1 := rfl
  generalize eH1 : H.newRow (List.replicate N (AV.int .i64 0)) = H1 at *
  have k2 := IR.new H1 N
  have s2 := Chg.newRow H1 (List.replicate N (AV.int .i64 0))
  have n2 : (H1.newRow (List.replicate N (AV.int .i64 0))).next = H1.next + 1 := rfl
  generalize eH2 : H1.newRow (List.replicate N (AV.int .i64 0)) = H2 at *
  have b3 := Blk.new H2 [.slice (some (H.next, 0)) 1 N true, .slice (some (H1.next, 0)) 1 N true, .int .i64 N] (n := 3) rfl
  have s3 := Chg.newRow H2 [.slice (some (H.next, 0)) 1 N true, .slice (some (H1.next, 0)) 1 N true, .int .i64 N]
  have n3 : (H2.newRow [.slice (some (H.next, 0)) 1 N true, .slice (some (H1.next, 0)) 1 N true, .int .i64 N]).next = H2.next + 1 := rfl
  generalize eH3 : H2.newRow [.slice (some (H.next, 0)) 1 N true, .slice (some (H1.next, 0)) 1 N true, .int .i64 N] = H3 at *
  have r3 : RingR H3 (fun x => x = H2.next ∨ x = H.next ∨ x = H1.next) H2.next H.next H1.next N (frow N fun _ => 0) (frow N fun _ => 0) N := by
    refine ⟨⟨true, true, b3.congr fun i hi => ?_⟩, (k1.keep s2.1 (s2.gt (by omega))).keep s3.1 (s3.gt (by omega)), k2.keep s3.1 (s3.gt (by omega)), ⟨by omega, by omega, by omega⟩, ⟨.inl rfl, .inr (.inl rfl), .inr (.inr rfl)⟩⟩
    match i, hi with
    | 0, _ => rfl
    | 1, _ => rfl
    | 2, _ => rfl
  simp -implicitDefEqProofs only [i1, i2, i3, i4, i5, rep1, eH1, eH2, eH3, Bool.false_eq_true, eqA, eqD, go_sem]
  refine WP_mono (Q := fun ex fr H4 => ex = .exit 0 ∧ fr.get 3 = some (.ptr (some (H2.next, 0))) ∧ RingR H4 (fun x => x = H2.next ∨ x = H.next ∨ x = H1.next) H2.next H.next H1.next N (frow N fun i => ((i + 1) % N : Nat)) (frow N fun i => ((i + N - 1) % N : Nat)) N ∧ Evo (fun x => x = H2.next ∨ x = H.next ∨ x = H1.next) H3 H4) ?_ (WP_loop (fun n fr H4 => ∃ k : Nat, n = N - k ∧ k ≤ N ∧ fr.get 0 = some (.int .i64 N) ∧ fr.get 3 = some (.ptr (some (H2.next, 0))) ∧ fr.get 18 = some (.int .i64 N) ∧ fr.get 19 = some (.int .i64 k) ∧ RingR H4 (fun x => x = H2.next ∨ x = H.next ∨ x = H1.next) H2.next H.next H1.next N (frow N fun i => if i < k then ((i + 1) % N : Nat) else 0) (frow N fun i => if i < k then ((i + N - 1) % N : Nat) else 0) N ∧ Evo (fun x => x = H2.next ∨ x = H.next ∨ x = H1.next) H3 H4) N ?_ ?_)
  · rintro ex fr H4 ⟨rfl, g3, r4, ev⟩
    simp -implicitDefEqProofs only [g3, eqA, eqD, go_sem]
    refine ⟨_, _, _, _, _, rfl, r4, cyc_new (by omega), ?_, by omega, by omega, by omega⟩
    exact (((Evo.of_sm (D := fun x => x = H2.next ∨ x = H.next ∨ x = H1.next) (s1.trans (s2.trans s3))).then ev fun _ _ h => h).sm fun x hx => by omega)
  · refine ⟨0, rfl, by omega, ?_⟩
    simp -implicitDefEqProofs only [eqA, eqD, go_sem]
    refine ⟨?_, Evo.refl _ _⟩
    simpa using r3
  · rintro n fr H4 ⟨k, hn, hk, g0, g3, g18, g19, r4, ev⟩
    have j0 : (0 : Int) ≤ k := by omega
    by_cases hlt : k < N
    · have hlt' : (k : Int) < (N : Int) := by omega
      have hw := wrapS hlt (by omega)
      have hz : ((N : Int) == 0) = false := by simp; omega
      have hz' : ¬ (N : Int) = 0 := by omega
      have w2 : IntKind.i64.wrap ((k : Int) + (N : Int)) = ((k + N : Nat) : Int) := by rw [wrap64 (by omega) (by omega)]; omega
      have w3 : IntKind.i64.wrap (((k + N : Nat) : Int) - 1) = ((k + N - 1 : Nat) : Int) := by rw [wrap64 (by omega) (by omega)]; omega
      have t1 : Int.tmod ((k + 1 : Nat) : Int) (N : Int) = (((k + 1) % N : Nat) : Int) := tmodN _ _
      have t2 : Int.tmod ((k + N - 1 : Nat) : Int) (N : Int) = (((k + N - 1) % N : Nat) : Int) := tmodN _ _
      obtain ⟨c1, c2, l0, l1, -⟩ := r4.lds
      obtain ⟨H5, H6, a1, a2, a3, a4, a5, a6, a7⟩ := r4.w2 ⟨j0, hlt'⟩ ⟨j0, hlt'⟩ (((k + 1) % N : Nat) : Int) (((k + N - 1) % N : Nat) : Int)
      rw [Int.toNat_natCast] at a1 a2
      simp -implicitDefEqProofs only [g0, g3, g18, g19, hlt', j0, hz, hz', w2, w3, hw, t1, t2, l0, l1, a1, a2, a5, a6, eqA, eqD, go_sem]
      refine ⟨N - (k + 1), by omega, k + 1, rfl, by omega, rfl, ?_, ev.then a4 fun _ _ h => h⟩
      rw [Int.toNat_natCast, frow_set, frow_set] at a3
      have e1 : ∀ F : Nat → Nat, upd (fun i => if i < k then ((F i : Nat) : Int) else 0) k (F k : Nat) = fun i => if i < k + 1 then ((F i : Nat) : Int) else 0 := fun F => by
        funext i
        by_cases e : i = k
        · subst e; rw [upd_same, if_pos (by omega)]
        · rw [upd_ne e]
          by_cases e' : i < k
          · rw [if_pos e', if_pos (by omega)]
          · rw [if_neg e', if_neg (by omega)]
      have q1 := e1 fun i => (i + 1) % N
      have q2 := e1 fun i => (i + N - 1) % N
      rw [q1, q2] at a3
      exact a3
    · obtain rfl : k = N := by omega
      simp -implicitDefEqProofs only [g0, g3, g18, g19, Int.lt_irrefl, Bool.false_eq_true, eqA, eqD, go_sem]
      refine ⟨?_, ev⟩
      have e : ∀ F : Nat → Nat, (frow k fun i => if i < k then ((F i : Nat) : Int) else 0) = frow k fun i => ((F i : Nat) : Int) := fun F => by
        unfold frow
        refine List.map_congr_left fun i hi => ?_
        rw [List.mem_range] at hi
        rw [if_pos hi]
      have q1 := e fun i => (i + 1) % k
      have q2 := e fun i => (i + k - 1) % k
      rw [q1, q2] at r4
      exact r4
def newMl (N : Nat) : Ml := fun k => if k = 0 then rng N else []
theorem newMl_ok (N : Nat) : MlOk N (newMl N) := by
  have e : ∀ k i, i ∈ newMl N k → k = 0 ∧ i ∈ rng N := fun k i hi => by
    unfold newMl at hi
    split at hi
    · exact ⟨by assumption, hi⟩
    · cases hi
  refine ⟨fun k hk => ?_, fun j k i _ _ h1 h2 => by rw [(e j i h1).1, (e k i h2).1], fun k i _ hi => mem_rng.1 (e k i hi).2, fun i h0 h1 => ⟨0, by omega, mem_rng.2 ⟨h0, h1⟩⟩⟩
  unfold newMl
  split
  · exact rng_nodup N
  · simp
theorem ord_new (N : Nat) : ord (newMl N) 0 = rng N := by simp [ord, newMl]
theorem c_mNew (h1 : 1 ≤ N) (h2 : N ≤ 512) : CW MN 41 [.int .i64 N] H fun v H' => ∃ a : MA, v = .ptr (some (a.mb, 0)) ∧ MillR H' a N (newMl N) ∧ Sm H H' ∧ ∀ x, a.d x → H.next ≤ x := by
  refine CW_of (fn := af41) rfl ?_
  dsimp only [af41, qm, q, qG, qn, qi, qb, qB, qk, qc, qo, qg, qv, qr]
  have i1 : ¬ (N : Int) < 1 := by omega
  have i2 : ¬ (512 : Int) < N := by omega
  have i3 : (0 : Int) ≤ N := by omega
  have i4 : (N : Int) * 8 ≤ 140737488355328 := by omega
  have i5 : (N : Int) ≤ 9223372036854775807 := by omega
  have k1 := IR.new H N
  have s1 := Chg.newRow H (List.replicate N (AV.int .i64 0))
  have n1 : (H.newRow (List.replicate N (AV.int .i64 0))).next = H.next + 1 := rfl
  generalize eH1 : H.newRow (List.replicate N (AV.int .i64 0)) = H1 at *
  simp -implicitDefEqProofs only [i1, i2, i3, i4, i5, rep1, eH1, Bool.false_eq_true, eqA, eqD, go_sem]
  refine CW.mono (c_rNew h1 (by omega)) ?_
  rintro v H2 ⟨b, xn, xp, nx, pv, rfl, r2, cy, s2, hb, hn, hp⟩
  have k2 := k1.keep s2.1 (s2.gt k1.1.1)
  obtain ⟨c1, c2, rb⟩ := r2.blk
  have bl := rb.1
  have nl := r2.nx.1.1
  have pl' := r2.pv.1.1
  have hne := r2.ne
  have b3 := Blk.new H2 [.ptr (some (b, 0)), .slice (some (H.next, 0)) 1 N true, .int .i64 0, .int .i64 (-1), .int .i64 (-1), .int .i64 (-1), .int .i64 N, .int .i64 0, .int .i64 0, .int .i64 0] (n := 10) rfl
  have s3 := Chg.newRow H2 [.ptr (some (b, 0)), .slice (some (H.next, 0)) 1 N true, .int .i64 0, .int .i64 (-1), .int .i64 (-1), .int .i64 (-1), .int .i64 N, .int .i64 0, .int .i64 0, .int .i64 0]
  simp -implicitDefEqProofs only [i1, i2, i3, i4, i5, rep1, eH1, Bool.false_eq_true, eqA, eqD, go_sem]
  generalize H2.newRow [.ptr (some (b, 0)), .slice (some (H.next, 0)) 1 N true, .int .i64 0, .int .i64 (-1), .int .i64 (-1), .int .i64 (-1), .int .i64 N, .int .i64 0, .int .i64 0, .int .i64 0] = H3 at *
  have hh := s2.1
  refine ⟨⟨H2.next, b, xn, xp, H.next⟩, rfl, ⟨⟨true, b3.congr fun i hi => ?_⟩, ⟨nx, pv, (r2.keep s3.1 fun x _ hx => s3.gt hx), by rw [ord_new]; exact cy⟩, ⟨_, k2.keep s3.1 (s3.gt k2.1.1), fun k hk i hi => ?_⟩, newMl_ok N, ⟨by dsimp only; omega, by dsimp only; omega, by dsimp only; omega, by dsimp only; omega, by dsimp only; omega, by dsimp only; omega, by dsimp only; omega⟩, h2⟩, s1.trans (s2.trans s3), fun x hx => ?_⟩
  · have hf : fst1 (rng N) = 0 := by
      obtain ⟨M, rfl⟩ : ∃ M, N = M + 1 := ⟨N - 1, by omega⟩
      unfold fst1 rng
      rw [List.range_succ_eq_map]; rfl
    match i, hi with
    | 0, _ => rfl
    | 1, _ => rfl
    | 2, _ => simp [mc, newMl, hf, updL]
    | 3, _ => simp [mc, newMl, updL, fst1]
    | 4, _ => simp [mc, newMl, updL, fst1]
    | 5, _ => simp [mc, newMl, updL, fst1]
    | 6, _ => simp [mc, newMl, updL, rng_len]
    | 7, _ => simp [mc, newMl, updL]
    | 8, _ => simp [mc, newMl, updL]
    | 9, _ => simp [mc, newMl, updL]
  · unfold newMl at hi
    split at hi
    · rename_i e
      have hb := mem_rng.1 hi
      rw [frow_at hb.1 hb.2, e]; rfl
    · cases hi
  · rcases hx with rfl | rfl | rfl | rfl | rfl <;> (try dsimp only) <;> omega
end
end Go.Proofs.YtaihjlemofgokaaGreat.AA
