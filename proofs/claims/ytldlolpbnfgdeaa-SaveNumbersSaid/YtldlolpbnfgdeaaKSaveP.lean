/- Plain law of 'the same': side by side, depth first, is a one to one way. -/
import Derived.Test.YtldlolpbnfgdeaaKReach
namespace Go.Proofs.Ytldlolpbnfgdeaa

/-- A word's object. -/
def objP (L : List SObj) (x : Nat) : Option Int := match idO x with
  | none => none
  | some id => if (getO L (id : Int)).isSome then some (id : Int) else none
/-- Two words by the pairs that are met. -/
def LedM (La Lb : List SObj) (M : List (Int × Int)) (x y : Nat) : Prop := match objP La x, objP Lb y with
  | none, none => x = y
  | some a, some b => (a, b) ∈ M
  | _, _ => False
/-- Two objects' shapes. -/
def shape (La Lb : List SObj) (a b : Int) : Bool := match getO La a, getO Lb b with
  | some o, some q => decide (o.1 = q.1) && decide (o.2.length = q.2.length)
  | _, _ => false
def kids (La : List SObj) (a : Int) : List Nat := match getO La a with | some o => o.2 | none => []

def foldM' (f : List (Int × Int) → Nat × Nat → Option (List (Int × Int))) : List (Nat × Nat) → List (Int × Int) → Option (List (Int × Int))
  | [], M => some M
  | p :: l, M => match f M p with
    | none => none
    | some M' => foldM' f l M'

def sameP (La Lb : List SObj) : Nat → Nat → Nat → List (Int × Int) → Option (List (Int × Int))
  | 0, _, _, _ => none
  | n + 1, x, y, M => match objP La x, objP Lb y with
    | none, none => if x = y then some M else none
    | some a, some b =>
      if (a, b) ∈ M then some M
      else if a ∈ M.map (·.1) ∨ b ∈ M.map (·.2) ∨ shape La Lb a b = false then none
      else foldM' (fun M p => sameP La Lb n p.1 p.2 M) ((kids La a).zip (kids Lb b)) (M ++ [(a, b)])
    | _, _ => none

structure Wf (La Lb : List SObj) (M : List (Int × Int)) : Prop where
  n1 : (M.map (·.1)).Nodup
  n2 : (M.map (·.2)).Nodup
  v1 : ∀ p ∈ M, (getO La p.1).isSome
  v2 : ∀ p ∈ M, (getO Lb p.2).isSome

section
variable {La Lb : List SObj}
theorem Wf.snoc {M : List (Int × Int)} (h : Wf La Lb M) {a b : Int} (ha : a ∉ M.map (·.1)) (hb : b ∉ M.map (·.2)) (va : (getO La a).isSome) (vb : (getO Lb b).isSome) : Wf La Lb (M ++ [(a, b)]) := by
  refine ⟨?_, ?_, ?_, ?_⟩
  · rw [List.map_append, List.nodup_append]
    exact ⟨h.n1, by simp, fun x hx y hy e => by simp at hy; subst hy; subst e; exact ha hx⟩
  · rw [List.map_append, List.nodup_append]
    exact ⟨h.n2, by simp, fun x hx y hy e => by simp at hy; subst hy; subst e; exact hb hx⟩
  · intro p hp
    rcases List.mem_append.1 hp with hp | hp
    · exact h.v1 p hp
    · simp at hp; subst hp; exact va
  · intro p hp
    rcases List.mem_append.1 hp with hp | hp
    · exact h.v2 p hp
    · simp at hp; subst hp; exact vb
theorem Wf.len {M : List (Int × Int)} (h : Wf La Lb M) : M.length ≤ La.length ∧ M.length ≤ Lb.length := by
  refine ⟨?_, ?_⟩
  · have := valid_le La (M.map (·.1)) h.n1 (fun i hi => by obtain ⟨p, hp, rfl⟩ := List.mem_map.1 hi; exact h.v1 p hp)
    simpa using this
  · have := valid_le Lb (M.map (·.2)) h.n2 (fun i hi => by obtain ⟨p, hp, rfl⟩ := List.mem_map.1 hi; exact h.v2 p hp)
    simpa using this
theorem wf_nil : Wf La Lb [] := ⟨by simp, by simp, by simp, by simp⟩
theorem objP_some {L : List SObj} {x : Nat} {a : Int} (h : objP L x = some a) : (getO L a).isSome ∧ ∃ id : Nat, idO x = some id ∧ a = id := by
  unfold objP at h
  cases hi : idO x with
  | none => rw [hi] at h; cases h
  | some id =>
    rw [hi] at h
    simp only at h
    split at h
    · rename_i hs
      cases h
      exact ⟨hs, id, rfl, rfl⟩
    · cases h
theorem LedM.mono {M M' : List (Int × Int)} (hs : ∀ p ∈ M, p ∈ M') {x y : Nat} (h : LedM La Lb M x y) : LedM La Lb M' x y := by
  unfold LedM at h ⊢
  split
  · rename_i h1 h2; rw [h1, h2] at h; exact h
  · rename_i h1 h2; rw [h1, h2] at h; exact hs _ h
  · rename_i h1 h2
    revert h
    cases ha : objP La x <;> cases hb : objP Lb y <;> intro h
    · exact absurd ha (by intro h'; exact h1 h' hb)
    · exact h
    · exact h
    · exact absurd hb (h2 _ _ ha)

/-- One side alone. -/
theorem dfs_obj (L : List SObj) (n x : Nat) (out : List Int) : dfs L (n + 1) x out = match objP L x with
    | none => out
    | some a => if a ∈ out then out else (kids L a).foldl (fun acc f => dfs L n f acc) (out ++ [a]) := by
  conv => lhs; unfold dfs
  unfold objP kids
  cases idO x with
  | none => rfl
  | some id =>
    simp only
    cases ho : getO L (id : Int) with
    | none =>
      simp
    | some o => simp [ho]
theorem dfs_fuel (L : List SObj) : ∀ (n n' x : Nat) (out : List Int), out.Nodup → (∀ i ∈ out, (getO L i).isSome) → L.length - out.length < n → L.length - out.length < n' → dfs L n x out = dfs L n' x out
  | 0, _, _, _, _, _, h, _ => by omega
  | _ + 1, 0, _, _, _, _, _, h => by omega
  | n + 1, n' + 1, x, out, hn, hv, h, h' => by
    rw [dfs_obj, dfs_obj]
    cases hx : objP L x with
    | none => rfl
    | some a =>
      simp only
      split
      · rfl
      · rename_i ha
        have hg : (out ++ [a]).Nodup ∧ ∀ i ∈ out ++ [a], (getO L i).isSome := by
          refine ⟨?_, ?_⟩
          · rw [List.nodup_append]
            exact ⟨hn, by simp, fun x1 hx1 y hy e => by simp at hy; subst hy; subst e; exact ha hx1⟩
          · intro i hi
            rcases List.mem_append.1 hi with hi | hi
            · exact hv i hi
            · simp at hi; subst hi; exact (objP_some hx).1
        have hl := valid_le L _ hg.1 hg.2
        simp only [List.length_append, List.length_cons, List.length_nil] at hl
        have key : ∀ (fs : List Nat) (acc : List Int), acc.Nodup → (∀ i ∈ acc, (getO L i).isSome) → out.length + 1 ≤ acc.length →
            fs.foldl (fun acc f => dfs L n f acc) acc = fs.foldl (fun acc f => dfs L n' f acc) acc := by
          intro fs
          induction fs with
          | nil => intro acc _ _ _; rfl
          | cons f fs ih =>
            intro acc h1 h2 h3
            simp only [List.foldl_cons]
            have e := dfs_fuel L n n' f acc h1 h2 (by omega) (by omega)
            rw [e]
            have hgd := dfs_good L n' f acc h1 h2
            exact ih _ hgd.1 hgd.2.1 (by omega)
        exact key _ _ hg.1 hg.2 (by simp)

theorem foldM'_some (f : List (Int × Int) → Nat × Nat → Option (List (Int × Int))) (l : List (Nat × Nat)) (M M' : List (Int × Int)) : ∀ (p : Nat × Nat), foldM' f (p :: l) M = some M' → ∃ M1, f M p = some M1 ∧ foldM' f l M1 = some M' := by
  intro p h
  unfold foldM' at h
  cases hf : f M p with
  | none => rw [hf] at h; cases h
  | some M1 => rw [hf] at h; exact ⟨M1, rfl, h⟩

/-- What success means. -/
structure Went (La Lb : List SObj) (n : Nat) (x y : Nat) (M M' : List (Int × Int)) : Prop where
  pre : ∃ t, M' = M ++ t
  wf : Wf La Lb M'
  led : LedM La Lb M' x y
  new : ∀ p ∈ M', p ∈ M ∨ (shape La Lb p.1 p.2 = true ∧ ∀ q ∈ (kids La p.1).zip (kids Lb p.2), LedM La Lb M' q.1 q.2)
  d1 : dfs La n x (M.map (·.1)) = M'.map (·.1)
  d2 : dfs Lb n y (M.map (·.2)) = M'.map (·.2)

theorem sameP_went : ∀ (n x y : Nat) (M M' : List (Int × Int)), Wf La Lb M → sameP La Lb n x y M = some M' → Went La Lb n x y M M'
  | 0, _, _, _, _, _, h => by simp [sameP] at h
  | n + 1, x, y, M, M', hw, h => by
    unfold sameP at h
    cases ha : objP La x with
    | none =>
      cases hb : objP Lb y with
      | none =>
        rw [ha, hb] at h
        simp only at h
        split at h
        · rename_i hxy
          cases h
          exact ⟨⟨[], by simp⟩, hw, by unfold LedM; rw [ha, hb]; exact hxy, fun p hp => .inl hp, by rw [dfs_obj, ha], by rw [dfs_obj, hb]⟩
        · cases h
      | some b => rw [ha, hb] at h; cases h
    | some a =>
      cases hb : objP Lb y with
      | none => rw [ha, hb] at h; cases h
      | some b =>
        rw [ha, hb] at h
        simp only at h
        split at h
        · rename_i hm
          cases h
          refine ⟨⟨[], by simp⟩, hw, by unfold LedM; rw [ha, hb]; exact hm, fun p hp => .inl hp, ?_, ?_⟩
          · rw [dfs_obj, ha]; simp only; rw [if_pos (List.mem_map.2 ⟨_, hm, rfl⟩)]
          · rw [dfs_obj, hb]; simp only; rw [if_pos (List.mem_map.2 ⟨_, hm, rfl⟩)]
        · split at h
          · cases h
          · rename_i hm hno
            simp only [not_or, Bool.not_eq_false] at hno
            obtain ⟨hna, hnb, hsh⟩ := hno
            have hw1 := hw.snoc hna hnb (objP_some ha).1 (objP_some hb).1
            have hkl : (kids La a).length = (kids Lb b).length := by
              unfold shape at hsh; unfold kids
              cases h1 : getO La a <;> cases h2 : getO Lb b <;> rw [h1, h2] at hsh <;> simp at hsh
              exact hsh.2
            have key : ∀ (ks : List Nat) (qs : List Nat) (M1 M2 : List (Int × Int)), ks.length = qs.length → Wf La Lb M1 → foldM' (fun M p => sameP La Lb n p.1 p.2 M) (ks.zip qs) M1 = some M2 →
                (∃ t, M2 = M1 ++ t) ∧ Wf La Lb M2 ∧ (∀ q ∈ ks.zip qs, LedM La Lb M2 q.1 q.2) ∧
                (∀ p ∈ M2, p ∈ M1 ∨ (shape La Lb p.1 p.2 = true ∧ ∀ q ∈ (kids La p.1).zip (kids Lb p.2), LedM La Lb M2 q.1 q.2)) ∧
                ks.foldl (fun acc f => dfs La n f acc) (M1.map (·.1)) = M2.map (·.1) ∧ qs.foldl (fun acc f => dfs Lb n f acc) (M1.map (·.2)) = M2.map (·.2) := by
              intro ks
              induction ks with
              | nil =>
                intro qs M1 M2 hl hw h
                cases qs with
                | cons _ _ => simp at hl
                | nil =>
                  simp only [List.zip_nil_left, foldM'] at h
                  cases h
                  exact ⟨⟨[], by simp⟩, hw, by simp, fun p hp => .inl hp, rfl, rfl⟩
              | cons k ks ih =>
                intro qs M1 M2 hl hw h
                cases qs with
                | nil => simp at hl
                | cons q qs =>
                  rw [List.zip_cons_cons] at h
                  obtain ⟨M3, h3, h4⟩ := foldM'_some _ _ _ _ _ h
                  have w3 := sameP_went n k q M1 M3 hw h3
                  obtain ⟨⟨t, ht⟩, g1, g2, g3, g4, g5⟩ := ih qs M3 M2 (by simpa using hl) w3.wf h4
                  obtain ⟨t', ht'⟩ := w3.pre
                  have hsub : ∀ p ∈ M3, p ∈ M2 := fun p hp => by rw [ht]; exact List.mem_append.2 (.inl hp)
                  refine ⟨⟨t' ++ t, by rw [ht, ht']; simp⟩, g1, ?_, ?_, ?_, ?_⟩
                  · intro r hr
                    rw [List.zip_cons_cons, List.mem_cons] at hr
                    rcases hr with rfl | hr
                    · exact w3.led.mono hsub
                    · exact g2 r hr
                  · intro p hp
                    rcases g3 p hp with h5 | h5
                    · rcases w3.new p h5 with h6 | h6
                      · exact .inl h6
                      · exact .inr ⟨h6.1, fun q hq => (h6.2 q hq).mono hsub⟩
                    · exact .inr h5
                  · simp only [List.foldl_cons]; rw [w3.d1]; exact g4
                  · simp only [List.foldl_cons]; rw [w3.d2]; exact g5
            obtain ⟨⟨t, ht⟩, g1, g2, g3, g4, g5⟩ := key _ _ _ _ hkl hw1 h
            have hab : (a, b) ∈ M' := by rw [ht]; simp
            refine ⟨⟨[(a, b)] ++ t, by rw [ht]; simp⟩, g1, by unfold LedM; rw [ha, hb]; exact hab, ?_, ?_, ?_⟩
            · intro p hp
              rcases g3 p hp with h5 | h5
              · rcases List.mem_append.1 h5 with h6 | h6
                · exact .inl h6
                · simp at h6; subst h6
                  exact .inr ⟨hsh, g2⟩
              · exact .inr h5
            · rw [dfs_obj, ha]; simp only; rw [if_neg hna]
              rw [← g4]; simp
            · rw [dfs_obj, hb]; simp only; rw [if_neg hnb]
              rw [← g5]; simp

/-- Where all is led, it succeeds. -/
theorem sameP_ok (G : List (Int × Int)) (hG1 : ∀ p ∈ G, ∀ q ∈ G, p.1 = q.1 → p = q) (hG2 : ∀ p ∈ G, ∀ q ∈ G, p.2 = q.2 → p = q)
    (hG : ∀ p ∈ G, shape La Lb p.1 p.2 = true ∧ ∀ q ∈ (kids La p.1).zip (kids Lb p.2), LedM La Lb G q.1 q.2) :
    ∀ (n x y : Nat) (M : List (Int × Int)), Wf La Lb M → (∀ p ∈ M, p ∈ G) → LedM La Lb G x y → La.length - M.length < n → ∃ M', sameP La Lb n x y M = some M' ∧ ∀ p ∈ M', p ∈ G
  | 0, _, _, _, _, _, _, h => by omega
  | n + 1, x, y, M, hw, hM, hled, hn => by
    unfold LedM at hled
    unfold sameP
    cases ha : objP La x with
    | none =>
      cases hb : objP Lb y with
      | none => rw [ha, hb] at hled; simp only; rw [if_pos hled]; exact ⟨M, rfl, hM⟩
      | some b => rw [ha, hb] at hled; exact hled.elim
    | some a =>
      cases hb : objP Lb y with
      | none => rw [ha, hb] at hled; exact hled.elim
      | some b =>
        rw [ha, hb] at hled
        simp only at hled ⊢
        by_cases hm : (a, b) ∈ M
        · rw [if_pos hm]; exact ⟨M, rfl, hM⟩
        · rw [if_neg hm]
          have hg := hG _ hled
          have hna : a ∉ M.map (·.1) := fun h => by
            obtain ⟨p, hp, hpa⟩ := List.mem_map.1 h
            have := hG1 p (hM p hp) (a, b) hled hpa
            subst this; exact hm hp
          have hnb : b ∉ M.map (·.2) := fun h => by
            obtain ⟨p, hp, hpb⟩ := List.mem_map.1 h
            have := hG2 p (hM p hp) (a, b) hled hpb
            subst this; exact hm hp
          rw [if_neg (by simp only [not_or, Bool.not_eq_false]; exact ⟨hna, hnb, hg.1⟩)]
          have hw1 := hw.snoc hna hnb (objP_some ha).1 (objP_some hb).1
          have hl1 := hw1.len.1
          simp only [List.length_append, List.length_cons, List.length_nil] at hl1
          have key : ∀ (l : List (Nat × Nat)) (M1 : List (Int × Int)), Wf La Lb M1 → (∀ p ∈ M1, p ∈ G) → M.length + 1 ≤ M1.length → (∀ q ∈ l, LedM La Lb G q.1 q.2) →
              ∃ M', foldM' (fun M p => sameP La Lb n p.1 p.2 M) l M1 = some M' ∧ ∀ p ∈ M', p ∈ G := by
            intro l
            induction l with
            | nil => intro M1 _ h2 _ _; exact ⟨M1, rfl, h2⟩
            | cons q l ih =>
              intro M1 h1 h2 h3 h4
              obtain ⟨M2, hM2, hs2⟩ := sameP_ok G hG1 hG2 hG n q.1 q.2 M1 h1 h2 (h4 q (by simp)) (by omega)
              have w2 := sameP_went n q.1 q.2 M1 M2 h1 hM2
              obtain ⟨t, ht⟩ := w2.pre
              obtain ⟨M3, hM3, hs3⟩ := ih M2 w2.wf hs2 (by rw [ht]; simp; omega) (fun r hr => h4 r (by simp [hr]))
              refine ⟨M3, ?_, hs3⟩
              unfold foldM'
              rw [hM2]
              exact hM3
          refine key _ _ hw1 (fun p hp => ?_) (by simp) hg.2
          rcases List.mem_append.1 hp with h | h
          · exact hM p h
          · simp at h; subst h; exact hled

def fuelP (La Lb : List SObj) : Nat := La.length + Lb.length + 1
def sameAllP (La : List SObj) (ra : List Nat) (Lb : List SObj) (rb : List Nat) : Bool :=
  decide (ra.length = rb.length) && (foldM' (fun M p => sameP La Lb (fuelP La Lb) p.1 p.2 M) (ra.zip rb) []).isSome
def ledP (La Lb : List SObj) (G : List (Int × Int)) (x y : Nat) : Bool := match objP La x, objP Lb y with
  | none, none => decide (x = y)
  | some a, some b => decide (get? G a = some b)
  | _, _ => false
def alikeP (La : List SObj) (ra : List Nat) (Lb : List SObj) (rb : List Nat) : Bool :=
  decide (ra.length = rb.length) && decide ((reachP La ra).length = (reachP Lb rb).length) && (ra.zip rb).all (fun q => ledP La Lb ((reachP La ra).zip (reachP Lb rb)) q.1 q.2) &&
    ((reachP La ra).zip (reachP Lb rb)).all (fun p => shape La Lb p.1 p.2 && ((kids La p.1).zip (kids Lb p.2)).all (fun q => ledP La Lb ((reachP La ra).zip (reachP Lb rb)) q.1 q.2))

theorem mem_get {κ ν : Type} [DecidableEq κ] {G : List (κ × ν)} (hn : (G.map (·.1)).Nodup) (a : κ) (b : ν) : (a, b) ∈ G ↔ get? G a = some b := by
  unfold get?
  induction G with
  | nil => simp
  | cons p G ih =>
    rw [List.map_cons, List.nodup_cons] at hn
    simp only [List.mem_cons, List.find?_cons]
    by_cases hp : p.1 = a
    · simp only [hp, decide_true, Option.map_some, Option.some.injEq]
      constructor
      · rintro (h | h)
        · rw [← h]
        · exact absurd (List.mem_map.2 ⟨_, h, rfl⟩) (hp ▸ hn.1)
      · intro h; left; rw [← h, ← hp]
    · simp only [hp, decide_false]
      rw [← ih hn.2]
      constructor
      · rintro (h | h)
        · rw [← h] at hp; exact absurd rfl hp
        · exact h
      · exact fun h => .inr h
theorem led_iff {G : List (Int × Int)} (hn : (G.map (·.1)).Nodup) (x y : Nat) : LedM La Lb G x y ↔ ledP La Lb G x y = true := by
  unfold LedM ledP
  cases objP La x <;> cases objP Lb y <;> simp [mem_get hn]
theorem zip_fst {α β : Type} : ∀ (l : List α) (m : List β), l.length = m.length → (l.zip m).map (·.1) = l
  | [], _, _ => by simp
  | _ :: _, [], h => by simp at h
  | a :: l, b :: m, h => by simp [zip_fst l m (by simpa using h)]
theorem zip_snd {α β : Type} : ∀ (l : List α) (m : List β), l.length = m.length → (l.zip m).map (·.2) = m
  | [], [], _ => by simp
  | [], _ :: _, h => by simp at h
  | _ :: _, [], h => by simp at h
  | a :: l, b :: m, h => by simp [zip_snd l m (by simpa using h)]
theorem nodup_map_inj {α β : Type} {f : α → β} {l : List α} (h : (l.map f).Nodup) : ∀ p ∈ l, ∀ q ∈ l, f p = f q → p = q := by
  intro p hp q hq e
  obtain ⟨i, hi⟩ := List.mem_iff_getElem?.1 hp
  obtain ⟨j, hj⟩ := List.mem_iff_getElem?.1 hq
  have h1 : (l.map f)[i]? = (l.map f)[j]? := by simp [hi, hj, e]
  have hi' : i < (l.map f).length := by have := (List.getElem?_eq_some_iff.1 hi).1; simpa using this
  have := (List.getElem?_inj hi' h).1 h1
  subst this
  rw [hi] at hj
  exact Option.some.inj hj
theorem roots_went : ∀ (ra rb : List Nat) (M M' : List (Int × Int)), ra.length = rb.length → Wf La Lb M → foldM' (fun M p => sameP La Lb (fuelP La Lb) p.1 p.2 M) (ra.zip rb) M = some M' →
    (∀ p ∈ M, p ∈ M') ∧ Wf La Lb M' ∧ (∀ q ∈ ra.zip rb, LedM La Lb M' q.1 q.2) ∧
    (∀ p ∈ M', p ∈ M ∨ (shape La Lb p.1 p.2 = true ∧ ∀ q ∈ (kids La p.1).zip (kids Lb p.2), LedM La Lb M' q.1 q.2)) ∧
    ra.foldl (fun acc f => dfs La (La.length + 1) f acc) (M.map (·.1)) = M'.map (·.1) ∧ rb.foldl (fun acc f => dfs Lb (Lb.length + 1) f acc) (M.map (·.2)) = M'.map (·.2)
  | [], [], M, M', _, hw, h => by
    simp only [List.zip_nil_left, foldM'] at h
    cases h
    exact ⟨fun p hp => hp, hw, by simp, fun p hp => .inl hp, rfl, rfl⟩
  | [], _ :: _, _, _, hl, _, _ => by simp at hl
  | _ :: _, [], _, _, hl, _, _ => by simp at hl
  | x :: ra, y :: rb, M, M', hl, hw, h => by
    rw [List.zip_cons_cons] at h
    obtain ⟨M3, h3, h4⟩ := foldM'_some _ _ _ _ _ h
    have w3 := sameP_went _ x y M M3 hw h3
    obtain ⟨g0, g1, g2, g3, g4, g5⟩ := roots_went ra rb M3 M' (by simpa using hl) w3.wf h4
    obtain ⟨t', ht'⟩ := w3.pre
    have hv1 : ∀ i ∈ M.map (·.1), (getO La i).isSome := fun i hi => by obtain ⟨p, hp, rfl⟩ := List.mem_map.1 hi; exact hw.v1 p hp
    have hv2 : ∀ i ∈ M.map (·.2), (getO Lb i).isSome := fun i hi => by obtain ⟨p, hp, rfl⟩ := List.mem_map.1 hi; exact hw.v2 p hp
    refine ⟨fun p hp => g0 p (by rw [ht']; simp [hp]), g1, ?_, ?_, ?_, ?_⟩
    · intro r hr
      rw [List.zip_cons_cons, List.mem_cons] at hr
      rcases hr with rfl | hr
      · exact w3.led.mono g0
      · exact g2 r hr
    · intro p hp
      rcases g3 p hp with h5 | h5
      · rcases w3.new p h5 with h6 | h6
        · exact .inl h6
        · exact .inr ⟨h6.1, fun q hq => (h6.2 q hq).mono g0⟩
      · exact .inr h5
    · simp only [List.foldl_cons]
      rw [dfs_fuel La (La.length + 1) (fuelP La Lb) x _ hw.n1 hv1 (by omega) (by unfold fuelP; omega), w3.d1]; exact g4
    · simp only [List.foldl_cons]
      rw [dfs_fuel Lb (Lb.length + 1) (fuelP La Lb) y _ hw.n2 hv2 (by omega) (by unfold fuelP; omega), w3.d2]; exact g5
theorem roots_ok (G : List (Int × Int)) (hG1 : ∀ p ∈ G, ∀ q ∈ G, p.1 = q.1 → p = q) (hG2 : ∀ p ∈ G, ∀ q ∈ G, p.2 = q.2 → p = q)
    (hG : ∀ p ∈ G, shape La Lb p.1 p.2 = true ∧ ∀ q ∈ (kids La p.1).zip (kids Lb p.2), LedM La Lb G q.1 q.2) :
    ∀ (l : List (Nat × Nat)) (M1 : List (Int × Int)), Wf La Lb M1 → (∀ p ∈ M1, p ∈ G) → (∀ q ∈ l, LedM La Lb G q.1 q.2) → ∃ M', foldM' (fun M p => sameP La Lb (fuelP La Lb) p.1 p.2 M) l M1 = some M' := by
  intro l
  induction l with
  | nil => intro M1 _ _ _; exact ⟨M1, rfl⟩
  | cons q l ih =>
    intro M1 h1 h2 h4
    obtain ⟨M2, hM2, hs2⟩ := sameP_ok (La := La) (Lb := Lb) G hG1 hG2 hG (fuelP La Lb) q.1 q.2 M1 h1 h2 (h4 q (by simp)) (by unfold fuelP; omega)
    have w2 := sameP_went _ q.1 q.2 M1 M2 h1 hM2
    obtain ⟨M3, hM3⟩ := ih M2 w2.wf hs2 (fun r hr => h4 r (by simp [hr]))
    refine ⟨M3, ?_⟩
    unfold foldM'
    rw [hM2]
    exact hM3
theorem same_alike (La : List SObj) (ra : List Nat) (Lb : List SObj) (rb : List Nat) : sameAllP La ra Lb rb = alikeP La ra Lb rb := by
  rw [Bool.eq_iff_iff]
  constructor
  · intro h
    unfold sameAllP at h
    simp only [Bool.and_eq_true, decide_eq_true_eq] at h
    obtain ⟨hl, hs⟩ := h
    obtain ⟨M, hM⟩ := Option.isSome_iff_exists.1 hs
    obtain ⟨-, hw, h2, h3, h4, h5⟩ := roots_went ra rb [] M hl wf_nil hM
    have hX : reachP La ra = M.map (·.1) := h4
    have hY : reachP Lb rb = M.map (·.2) := h5
    have hG : (reachP La ra).zip (reachP Lb rb) = M := by
      rw [hX, hY, List.zip_map']
      simp
    unfold alikeP
    rw [hG, hX, hY]
    simp only [Bool.and_eq_true, decide_eq_true_eq, List.length_map, List.all_eq_true, and_true]
    refine ⟨⟨hl, fun q hq => (led_iff hw.n1 _ _).1 (h2 q hq)⟩, fun p hp => ?_⟩
    rcases h3 p hp with h | h
    · cases h
    · exact ⟨h.1, fun q hq => (led_iff hw.n1 _ _).1 (h.2 q hq)⟩
  · intro h
    unfold alikeP at h
    simp only [Bool.and_eq_true, decide_eq_true_eq, List.all_eq_true] at h
    obtain ⟨⟨⟨hl, hxy⟩, hr⟩, hp⟩ := h
    have hgx := reachP_good La ra
    have hgy := reachP_good Lb rb
    have hn1 : (((reachP La ra).zip (reachP Lb rb)).map (·.1)).Nodup := by rw [zip_fst _ _ hxy]; exact hgx.1
    have hn2 : (((reachP La ra).zip (reachP Lb rb)).map (·.2)).Nodup := by rw [zip_snd _ _ hxy]; exact hgy.1
    obtain ⟨M, hM⟩ := roots_ok (La := La) (Lb := Lb) _ (nodup_map_inj hn1) (nodup_map_inj hn2) (fun p hp' => ⟨(hp p hp').1, fun q hq => (led_iff hn1 _ _).2 ((hp p hp').2 q hq)⟩) (ra.zip rb) [] wf_nil (by simp) (fun q hq => (led_iff hn1 _ _).2 (hr q hq))
    unfold sameAllP
    simp [hl, hM]
theorem zip_self {α : Type} : ∀ (l : List α) (p : α × α), p ∈ l.zip l → p.1 = p.2
  | [], _, h => by simp at h
  | a :: l, p, h => by
    rw [List.zip_cons_cons, List.mem_cons] at h
    rcases h with rfl | h
    · rfl
    · exact zip_self l p h
theorem same_self (L : List SObj) (r : List Nat) : sameAllP L r L r = true := by
  have hG : ∀ p ∈ (List.range L.length).map (fun i : Nat => ((4 + (i : Int)), (4 + (i : Int)))), p.1 = p.2 ∧ (getO L p.1).isSome := by
    intro p hp
    obtain ⟨i, hi, rfl⟩ := List.mem_map.1 hp
    refine ⟨rfl, ?_⟩
    have hi' := List.mem_range.1 hi
    unfold getO
    rw [if_pos (by omega), show (4 + (i : Int) - 4).toNat = i by omega, List.getElem?_eq_getElem hi']
    rfl
  have hled : ∀ x, LedM L L ((List.range L.length).map (fun i : Nat => ((4 + (i : Int)), (4 + (i : Int))))) x x := by
    intro x
    unfold LedM
    cases hx : objP L x with
    | none => rfl
    | some a =>
      simp only
      obtain ⟨o, ho⟩ := Option.isSome_iff_exists.1 (objP_some hx).1
      obtain ⟨h4, hlt, -⟩ := getO_some ho
      exact List.mem_map.2 ⟨(a - 4).toNat, List.mem_range.2 hlt, by ext <;> simp <;> omega⟩
  obtain ⟨M, hM⟩ := roots_ok (La := L) (Lb := L) ((List.range L.length).map (fun i : Nat => ((4 + (i : Int)), (4 + (i : Int)))))
    (fun p hp q hq e => by have h1 := (hG p hp).1; have h2 := (hG q hq).1; exact Prod.ext e (by rw [← h1, ← h2]; exact e))
    (fun p hp q hq e => by have h1 := (hG p hp).1; have h2 := (hG q hq).1; exact Prod.ext (by rw [h1, h2]; exact e) e)
    (fun p hp => by
      have h := hG p hp
      refine ⟨?_, fun q hq => ?_⟩
      · rw [← h.1]
        obtain ⟨o, ho⟩ := Option.isSome_iff_exists.1 h.2
        unfold shape; rw [ho]; simp
      · rw [← h.1] at hq
        rw [← zip_self _ q hq]; exact hled _) (r.zip r) [] wf_nil (by simp) (fun q hq => by rw [← zip_self _ q hq]; exact hled _)
  unfold sameAllP
  simp [hM]
end
end Go.Proofs.Ytldlolpbnfgdeaa
