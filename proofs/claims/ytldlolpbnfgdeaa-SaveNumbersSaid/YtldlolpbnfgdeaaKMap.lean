/- Maps of a call's own, as lists of pairs: laws of their operations. -/
import Derived.Test.YtldlolpbnfgdeaaKBase
import Derived.Maps.OwnOps
import Derived.Maps.OwnSet
namespace Go.Proofs.Ytldlolpbnfgdeaa
open Go Go.RowKit
set_option linter.unusedSectionVars false

section
variable {κ ν : Type} [DecidableEq κ]
/-- What is set: in its place, or behind all. -/
def upd (M : List (κ × ν)) (k : κ) (v : ν) : List (κ × ν) := if k ∈ M.map (·.1) then M.map (fun p => if p.1 = k then (k, v) else p) else M ++ [(k, v)]
def get? (M : List (κ × ν)) (k : κ) : Option ν := (M.find? (fun p => p.1 = k)).map (·.2)
def del (M : List (κ × ν)) (k : κ) : List (κ × ν) := M.filter (fun p => p.1 ≠ k)

theorem get?_nil (k : κ) : get? ([] : List (κ × ν)) k = none := rfl
theorem get?_isSome (M : List (κ × ν)) (k : κ) : (get? M k).isSome = true ↔ k ∈ M.map (·.1) := by
  unfold get?
  simp [List.find?_isSome]
theorem get?_none (M : List (κ × ν)) (k : κ) : get? M k = none ↔ k ∉ M.map (·.1) := by
  rw [← get?_isSome]; cases get? M k <;> simp
theorem get?_upd (M : List (κ × ν)) (k k' : κ) (v : ν) : get? (upd M k v) k' = if k' = k then some v else get? M k' := by
  unfold upd
  split
  · rename_i h
    induction M with
    | nil => simp at h
    | cons p M ih =>
      unfold get? at ih ⊢
      simp only [List.map_cons, List.find?_cons]
      by_cases hp : p.1 = k
      · simp only [hp, if_true]
        by_cases hk : k = k'
        · subst hk; simp
        · simp only [hk, decide_false]
          have hk' : ¬ k' = k := fun h => hk h.symm
          rw [if_neg hk']
          by_cases hm : k ∈ M.map (·.1)
          · have := ih hm
            rw [if_neg hk'] at this
            exact this
          · congr 1
            have hM : M.map (fun p => if p.1 = k then (k, v) else p) = M := by
              conv => rhs; rw [← List.map_id M]
              apply List.map_congr_left
              intro q hq
              rw [if_neg]
              · rfl
              · intro hqk; exact hm (List.mem_map.2 ⟨q, hq, hqk⟩)
            rw [hM]
      · have hm : k ∈ M.map (·.1) := by
          simp only [List.map_cons, List.mem_cons] at h
          exact h.resolve_left (fun h => hp h.symm)
        simp only [hp, if_false]
        by_cases hk : p.1 = k'
        · have : ¬ k' = k := fun h => hp (hk.trans h)
          simp [hk, this]
        · simp only [hk, decide_false]
          exact ih hm
  · rename_i h
    unfold get?
    rw [List.find?_append]
    by_cases hk : k' = k
    · subst hk
      have : M.find? (fun p => decide (p.1 = k')) = none := by
        rw [List.find?_eq_none]
        intro q hq hqk
        exact h (List.mem_map.2 ⟨q, hq, by simpa using hqk⟩)
      simp [this]
    · have : ¬ k = k' := fun h => hk h.symm
      simp [hk, this]
theorem keys_upd (M : List (κ × ν)) (k : κ) (v : ν) : (upd M k v).map (·.1) = if k ∈ M.map (·.1) then M.map (·.1) else M.map (·.1) ++ [k] := by
  unfold upd
  split
  · rw [List.map_map]
    apply List.map_congr_left
    intro p _
    simp only [Function.comp]
    split
    · rename_i h; exact h.symm
    · rfl
  · simp
theorem nodup_upd (M : List (κ × ν)) (k : κ) (v : ν) (h : (M.map (·.1)).Nodup) : ((upd M k v).map (·.1)).Nodup := by
  rw [keys_upd]
  split
  · exact h
  · rename_i hk
    rw [List.nodup_append]
    exact ⟨h, by simp, fun a ha b hb e => by simp at hb; subst hb; subst e; exact hk ha⟩
theorem get?_del (M : List (κ × ν)) (k k' : κ) : get? (del M k) k' = if k' = k then none else get? M k' := by
  unfold get? del
  induction M with
  | nil => simp
  | cons p M ih =>
    simp only [List.filter_cons]
    by_cases hp : p.1 = k
    · simp only [hp, ne_eq, not_true_eq_false, decide_false, Bool.false_eq_true, if_false]
      rw [ih]
      by_cases hk : k' = k
      · simp [hk]
      · have : ¬ k = k' := fun h => hk h.symm
        simp [hk, hp, this]
    · simp only [hp, ne_eq, not_false_eq_true, decide_true, if_true, List.find?_cons]
      by_cases hk : p.1 = k'
      · have : ¬ k' = k := fun h => hp (hk.trans h)
        simp [hk, this]
      · simp only [hk, decide_false]
        exact ih
theorem nodup_del (M : List (κ × ν)) (k : κ) (h : (M.map (·.1)).Nodup) : ((del M k).map (·.1)).Nodup := by
  unfold del
  exact h.sublist (List.filter_sublist.map _)

theorem get?_mapConst (l : List κ) (v : ν) (k : κ) : get? (l.map fun i => (i, v)) k = if k ∈ l then some v else none := by
  induction l with
  | nil => rfl
  | cons a l ih =>
    unfold get? at ih ⊢
    simp only [List.map_cons, List.find?_cons]
    by_cases ha : a = k
    · simp [ha]
    · have : ¬ k = a := fun h => ha h.symm
      simp only [ha, decide_false, List.mem_cons, this, false_or]
      exact ih
theorem upd_mapConst (l : List κ) (v : ν) (k : κ) (h : k ∉ l) : upd (l.map fun i => (i, v)) k v = (l ++ [k]).map fun i => (i, v) := by
  unfold upd
  rw [if_neg]
  · simp
  · rw [List.map_map]
    intro hm
    obtain ⟨a, ha, rfl⟩ := List.mem_map.1 hm
    exact h ha
/-- Keys of a kind: how they are found. -/
structure KeyT (P : Program) (T : TypeId) (ek : κ → Value) : Prop where
  chk : ∀ (b : Bool) (k : κ) (w : World), (Instr.checkKey b 10000 T (ek k)).run P w = .ok () w
  find : ∀ (k : κ) (ks : List κ) (es : List MapEntry) (w : World), es.map (·.key) = ks.map ek →
    (Instr.findKey T (ek k) es).run P w = .ok ((ks.idxOf? k).bind fun i => (es[i]?).map fun e => (i, e.val)) w
  same : ∀ k, Instr.sameBits 10000 (ek k) (ek k) = true

/-- A map in memory. -/
def MapR (w : World) (m : Nat) (ek : κ → Value) (ev : ν → Value) (M : List (κ × ν)) : Prop :=
  ∃ es clk, w.heap[m]? = some (.map es clk) ∧ es.toList.map (fun e => (e.key, e.val)) = M.map (fun p => (ek p.1, ev p.2)) ∧
    (∀ e ∈ es.toList, e.born < clk) ∧ (es.toList.map (·.born)).Nodup ∧ (M.map (·.1)).Nodup
theorem MapR.lt {w : World} {m : Nat} {ek : κ → Value} {ev : ν → Value} {M : List (κ × ν)} (h : MapR w m ek ev M) : m < w.heap.size := by
  obtain ⟨es, clk, h, -⟩ := h
  exact lt_of_blk h
theorem MapR.frame {w w' : World} {m : Nat} {ek : κ → Value} {ev : ν → Value} {M : List (κ × ν)} (h : MapR w m ek ev M) (hf : w'.heap[m]? = w.heap[m]?) : MapR w' m ek ev M := by
  obtain ⟨es, clk, h1, h2⟩ := h
  exact ⟨es, clk, hf.trans h1, h2⟩
theorem MapR.mod {w w' : World} {m : Nat} {ek : κ → Value} {ev : ν → Value} {M : List (κ × ν)} {F : List Nat} (h : MapR w m ek ev M) (hm : Mod F w w') (hf : m ∉ F) : MapR w' m ek ev M :=
  h.frame (hm.block m h.lt hf)
theorem MapR.new (w : World) (ek : κ → Value) (ev : ν → Value) : MapR (w.alloc (.map #[] 0)) w.heap.size ek ev ([] : List (κ × ν)) :=
  ⟨#[], 0, heap_alloc_new w _, rfl, by simp, by simp, by simp⟩

theorem idx_lookup (M : List (κ × ν)) (k : κ) {es : List MapEntry} {ek : κ → Value} {ev : ν → Value} (h : es.map (fun e => (e.key, e.val)) = M.map (fun p => (ek p.1, ev p.2))) :
    ((M.map (·.1)).idxOf? k).bind (fun i => (es[i]?).map fun e => (i, e.val)) = ((M.map (·.1)).idxOf? k).bind fun i => (M[i]?).map fun p => (i, ev p.2) := by
  congr 1
  funext i
  have := congrArg (fun l => l[i]?) h
  simp only [List.getElem?_map] at this
  cases he : es[i]? <;> cases hM : M[i]? <;> simp [he, hM] at this ⊢
  exact this.2
theorem idx_get (M : List (κ × ν)) (k : κ) : ((M.map (·.1)).idxOf? k).bind (fun i => (M[i]?).map fun p => p.2) = get? M k := by
  unfold get?
  induction M with
  | nil => simp
  | cons p M ih =>
    simp only [List.map_cons, List.idxOf?_cons, List.find?_cons]
    by_cases hp : p.1 = k
    · simp [hp]
    · have : (p.1 == k) = false := by simpa using hp
      simp only [this, hp, decide_false, Bool.false_eq_true, if_false]
      rw [← ih]
      cases (M.map (·.1)).idxOf? k <;> simp
theorem keys_of {es : List MapEntry} {M : List (κ × ν)} {ek : κ → Value} {ev : ν → Value} (h : es.map (fun e => (e.key, e.val)) = M.map (fun p => (ek p.1, ev p.2))) : es.map (·.key) = (M.map (·.1)).map ek := by
  have := congrArg (List.map Prod.fst) h
  rw [List.map_map, List.map_map] at this
  rw [List.map_map]
  exact this
theorem idx_some {ks : List κ} {k : κ} {i : Nat} (h : ks.idxOf? k = some i) : ks[i]? = some k := by
  induction ks generalizing i with
  | nil => simp at h
  | cons a ks ih =>
    rw [List.idxOf?_cons] at h
    by_cases ha : a = k
    · subst ha; simp at h; subst h; rfl
    · have : (a == k) = false := by simpa using ha
      simp only [this, Bool.false_eq_true, if_false] at h
      cases hk : ks.idxOf? k with
      | none => rw [hk] at h; cases h
      | some j =>
        rw [hk] at h
        simp at h
        subst h
        simpa using ih hk
theorem idx_none {ks : List κ} {k : κ} (h : ks.idxOf? k = none) : k ∉ ks := by
  simpa [List.idxOf?_eq_none_iff] using h

section
variable {P : Program} {w : World} {mt T E : TypeId} {ek : κ → Value} {ev : ν → Value} {M : List (κ × ν)} {m : Nat}
theorem run_getObj {o : Obj} (h : w.heap[m]? = some o) (hc : ∀ c e f, o ≠ .cells c e f) : (getObj m).run P w = .ok o w := by
  cases o <;> first | exact absurd rfl (hc _ _ _) | simp only [getObj, Sem.run, h]
/-- 'm[k]': what is there, or nought. -/
theorem MapR.lookup (hK : KeyT P T ek) (hmt : P.underlying mt = some (.map T E)) {z : Value} (hz : ∀ w, (zeroValue E).run P w = .ok z w) (h : MapR w m ek ev M) (k : κ) :
    (Instr.lookup mt (.map (some m)) (ek k) false).run P w = .ok (match get? M k with | some v => ev v | none => z) w := by
  obtain ⟨es, clk, hm, hes, -, -, -⟩ := h
  have hg := run_getObj (P := P) hm (by intro c e f h; cases h)
  have hf := hK.find k (M.map (·.1)) es.toList w (keys_of hes)
  rw [idx_lookup M k hes] at hf
  simp only [Instr.lookup, Sem.run_bind, run_underlying hmt, Result.andThen_ok, hg, Sem.run_pure, hK.chk, hf]
  rw [← idx_get M k]
  cases hi : (M.map (·.1)).idxOf? k with
  | none => simp [hz]
  | some i =>
    have h1 := idx_some hi
    rw [List.getElem?_map] at h1
    cases hM : M[i]? with
    | none => rw [hM] at h1; cases h1
    | some p => simp [hM]
theorem MapR.lookup_ok (hK : KeyT P T ek) (hmt : P.underlying mt = some (.map T E)) {z : Value} (hz : ∀ w, (zeroValue E).run P w = .ok z w) (h : MapR w m ek ev M) (k : κ) :
    (Instr.lookup mt (.map (some m)) (ek k) true).run P w = .ok (match get? M k with | some v => .tuple #[ev v, .bool true] | none => .tuple #[z, .bool false]) w := by
  obtain ⟨es, clk, hm, hes, -, -, -⟩ := h
  have hg := run_getObj (P := P) hm (by intro c e f h; cases h)
  have hf := hK.find k (M.map (·.1)) es.toList w (keys_of hes)
  rw [idx_lookup M k hes] at hf
  simp only [Instr.lookup, Sem.run_bind, run_underlying hmt, Result.andThen_ok, hg, Sem.run_pure, hK.chk, hf]
  rw [← idx_get M k]
  cases hi : (M.map (·.1)).idxOf? k with
  | none => simp [hz]
  | some i =>
    have h1 := idx_some hi
    rw [List.getElem?_map] at h1
    cases hM : M[i]? with
    | none => rw [hM] at h1; cases h1
    | some p => simp [hM]
def setM (w : World) (m : Nat) (o : Obj) : World := { w with heap := w.heap.setIfInBounds m o }
theorem run_setObj {o o' : Obj} (h : w.heap[m]? = some o) (hc : ∀ c e f, o ≠ .cells c e f) : (setObj m o').run P w = .ok () (setM w m o') := by
  cases o <;> first | exact absurd rfl (hc _ _ _) | (simp only [setObj, Sem.run, h]; rfl)
theorem set_mod {o : Obj} (h : m < w.heap.size) : Mod [m] w (setM w m o) ∧ (setM w m o).heap[m]? = some o := by
  refine ⟨⟨rfl, rfl, rfl, by simp [setM], fun k hk hF => ?_⟩, by simp [setM, h]⟩
  have : m ≠ k := fun e => hF (by simp [e])
  simp [setM, this]
theorem map_idx_upd (k : κ) (v : ν) (hn : (M.map (·.1)).Nodup) {i : Nat} (hi : (M.map (·.1)).idxOf? k = some i) :
    upd M k v = M.modify i (fun p => (k, v)) := by
  have h1 := idx_some hi
  have hmem : k ∈ M.map (·.1) := List.mem_of_getElem? h1
  unfold upd
  rw [if_pos hmem]
  apply List.ext_getElem?
  intro j
  rw [List.getElem?_map, List.getElem?_modify]
  by_cases hij : i = j
  · subst hij
    rw [List.getElem?_map] at h1
    cases hM : M[i]? with
    | none => simp
    | some p =>
      rw [hM] at h1
      simp at h1
      simp [h1]
  · cases hM : M[j]? with
    | none => simp
    | some p =>
      have hp : ¬ p.1 = k := by
        intro h
        apply hij
        have h2 : (M.map (·.1))[j]? = some k := by rw [List.getElem?_map, hM]; simp [h]
        have hi' := (List.getElem?_eq_some_iff.1 h1)
        have hj' := (List.getElem?_eq_some_iff.1 h2)
        exact (List.getElem?_inj hi'.1 hn).1 (h1.trans h2.symm)
      simp [hp, hij]
theorem idx_val {es : List MapEntry} (hes : es.map (fun e => (e.key, e.val)) = M.map (fun p => (ek p.1, ev p.2))) {k : κ} {i : Nat} (hi : (M.map (·.1)).idxOf? k = some i) :
    ∃ e p, es[i]? = some e ∧ M[i]? = some p ∧ p.1 = k ∧ e.key = ek k ∧ e.val = ev p.2 ∧ get? M k = some p.2 := by
  have h1 := idx_some hi
  rw [List.getElem?_map] at h1
  cases hM : M[i]? with
  | none => rw [hM] at h1; cases h1
  | some p =>
    rw [hM] at h1
    simp at h1
    have := congrArg (fun l => l[i]?) hes
    simp only [List.getElem?_map, hM] at this
    cases he : es[i]? with
    | none => rw [he] at this; cases this
    | some e =>
      rw [he] at this
      simp at this
      refine ⟨e, p, rfl, rfl, h1, by rw [this.1, h1], this.2, ?_⟩
      rw [← idx_get M k, hi]
      simp [hM]
/-- What stands behind a write. -/
theorem mapR_modify (hn : (M.map (·.1)).Nodup) {es : Array MapEntry} {clk : Nat} (hes : es.toList.map (fun e => (e.key, e.val)) = M.map (fun p => (ek p.1, ev p.2))) (hb : ∀ e ∈ es.toList, e.born < clk) (hd : (es.toList.map (·.born)).Nodup)
    {k : κ} {v : ν} {i : Nat} (hi : (M.map (·.1)).idxOf? k = some i) (f : MapEntry → MapEntry) (hf : ∀ e, e.key = ek k → (f e).key = ek k ∧ (f e).val = ev v ∧ (f e).born = e.born) {w' : World} (hw : w'.heap[m]? = some (.map (es.modify i f) clk)) :
    MapR w' m ek ev (upd M k v) := by
  obtain ⟨e, p, he, hM, hp, hk, hv, -⟩ := idx_val hes hi
  have hi' : i < es.toList.length := (List.getElem?_eq_some_iff.1 he).1
  have hbl : (es.modify i f).toList.map (·.born) = es.toList.map (·.born) := by
    rw [Array.toList_modify]
    apply List.ext_getElem?
    intro j
    simp only [List.getElem?_map, List.getElem?_modify]
    by_cases hij : i = j
    · subst hij
      rw [he]
      simp [(hf e hk).2.2]
    · cases es.toList[j]? <;> simp [hij]
  refine ⟨es.modify i f, clk, hw, ?_, ?_, by rw [hbl]; exact hd, nodup_upd M k v hn⟩
  · rw [map_idx_upd k v hn hi, Array.toList_modify]
    apply List.ext_getElem?
    intro j
    have hj := congrArg (fun l => l[j]?) hes
    simp only [List.getElem?_map, List.getElem?_modify] at hj ⊢
    by_cases hij : i = j
    · subst hij
      rw [he, hM]
      simp [(hf e hk).1, (hf e hk).2.1]
    · simp only [hij, if_false]
      cases h1 : es.toList[j]? <;> cases h2 : M[j]? <;> rw [h1, h2] at hj <;> simp at hj ⊢
      exact hj
  · intro e' he'
    have : e'.born ∈ (es.modify i f).toList.map (·.born) := List.mem_map.2 ⟨e', he', rfl⟩
    rw [hbl] at this
    obtain ⟨e'', h1, h2⟩ := List.mem_map.1 this
    rw [← h2]
    exact hb e'' h1
theorem mapR_push (hn : (M.map (·.1)).Nodup) {es : Array MapEntry} {clk : Nat} (hes : es.toList.map (fun e => (e.key, e.val)) = M.map (fun p => (ek p.1, ev p.2))) (hb : ∀ e ∈ es.toList, e.born < clk) (hd : (es.toList.map (·.born)).Nodup)
    {k : κ} {v : ν} (hi : (M.map (·.1)).idxOf? k = none) {w' : World} (hw : w'.heap[m]? = some (.map (es.push { key := ek k, val := ev v, born := clk }) (clk + 1))) :
    MapR w' m ek ev (upd M k v) := by
  have hk := idx_none hi
  refine ⟨_, _, hw, ?_, ?_, ?_, nodup_upd M k v hn⟩
  · unfold upd
    rw [if_neg hk, Array.toList_push, List.map_append, List.map_append, hes]
    rfl
  · intro e he
    rw [Array.toList_push, List.mem_append] at he
    rcases he with he | he
    · have := hb e he; omega
    · simp at he; subst he; simp
  · rw [Array.toList_push, List.map_append, List.nodup_append]
    refine ⟨hd, by simp, fun a ha b hb' e => ?_⟩
    simp at hb'
    obtain ⟨x, hx, rfl⟩ := List.mem_map.1 ha
    have := hb x hx
    omega
/-- 'm[k] = v'. -/
theorem MapR.update (hK : KeyT P T ek) (hmt : P.underlying mt = some (.map T E)) (h : MapR w m ek ev M) (k : κ) (v : ν) :
    ∃ w', (Instr.mapUpdate mt (.map (some m)) (ek k) (ev v)).run P w = .ok () w' ∧ MapR w' m ek ev (upd M k v) ∧ Mod [m] w w' := by
  have hlt := h.lt
  obtain ⟨es, clk, hm, hes, hb, hd, hn⟩ := h
  have hg := run_getObj (P := P) hm (by intro c e f h; cases h)
  have hf := hK.find k (M.map (·.1)) es.toList w (keys_of hes)
  cases hi : (M.map (·.1)).idxOf? k with
  | none =>
    rw [hi] at hf
    have hs := run_setObj (P := P) (o' := .map (es.push { key := ek k, val := ev v, born := clk }) (clk + 1)) hm (by intro c e f h; cases h)
    refine ⟨setM w m (.map (es.push { key := ek k, val := ev v, born := clk }) (clk + 1)), ?_, mapR_push hn hes hb hd hi (set_mod hlt).2, (set_mod hlt).1⟩
    simp only [Instr.mapUpdate, Sem.run_bind, run_underlying hmt, Result.andThen_ok, hg, hK.chk, hf, Option.bind_none]
    exact hs
  | some i =>
    obtain ⟨e, p, he, hM, hp, hk, hv, -⟩ := idx_val hes hi
    rw [hi] at hf
    simp only [Option.bind_some, he, Option.map_some] at hf
    have he' : es[i]? = some e := by simpa using he
    have hs := run_setObj (P := P) (o' := .map (es.modify i fun e => { e with key := ek k, val := ev v }) clk) hm (by intro c e f h; cases h)
    refine ⟨setM w m (.map (es.modify i fun e => { e with key := ek k, val := ev v }) clk), ?_, mapR_modify hn hes hb hd hi (v := v) (fun e => { e with key := ek k, val := ev v }) (fun e _ => ⟨rfl, rfl, rfl⟩) (set_mod hlt).2, (set_mod hlt).1⟩
    simp only [Instr.mapUpdate, Sem.run_bind, run_underlying hmt, Result.andThen_ok, hg, hK.chk, hf, he', Option.map_some, Option.getD_some, hk, Instr.keyThatStays, hK.same, if_true, Sem.run_pure]
    exact hs
/-- A map in which one entry's stamp is known. -/
def MapE (w : World) (m : Nat) (ek : κ → Value) (ev : ν → Value) (M : List (κ × ν)) (st : Nat) (k : κ) : Prop :=
  ∃ es clk, w.heap[m]? = some (.map es clk) ∧ es.toList.map (fun e => (e.key, e.val)) = M.map (fun p => (ek p.1, ev p.2)) ∧
    (∀ e ∈ es.toList, e.born < clk) ∧ (es.toList.map (·.born)).Nodup ∧ (M.map (·.1)).Nodup ∧ ∃ i e, (M.map (·.1)).idxOf? k = some i ∧ es[i]? = some e ∧ e.born = st
theorem MapE.mapR {st : Nat} {k : κ} (h : MapE w m ek ev M st k) : MapR w m ek ev M := by
  obtain ⟨es, clk, h1, h2, h3, h4, h5, -⟩ := h
  exact ⟨es, clk, h1, h2, h3, h4, h5⟩
theorem MapE.frame {w' : World} {st : Nat} {k : κ} (h : MapE w m ek ev M st k) (hf : w'.heap[m]? = w.heap[m]?) : MapE w' m ek ev M st k := by
  obtain ⟨es, clk, h1, h2⟩ := h
  exact ⟨es, clk, hf.trans h1, h2⟩
theorem idxOf_upd (k : κ) (v : ν) : ((upd M k v).map (·.1)).idxOf? k = some (match (M.map (·.1)).idxOf? k with | some i => i | none => M.length) := by
  rw [keys_upd]
  cases hi : (M.map (·.1)).idxOf? k with
  | some i => rw [if_pos (List.mem_of_getElem? (idx_some hi)), hi]
  | none =>
    rw [if_neg (idx_none hi)]
    have : ∀ l : List κ, k ∉ l → (l ++ [k]).idxOf? k = some l.length := by
      intro l
      induction l with
      | nil => intro _; simp [List.idxOf?_cons]
      | cons a l ih =>
        intro h
        simp only [List.mem_cons, not_or] at h
        have ha : (a == k) = false := by simpa using fun e => h.1 e.symm
        rw [List.cons_append, List.idxOf?_cons, ha, ih h.2]
        simp
    rw [this _ (idx_none hi)]
    simp
/-- The place of 'm[k]', before it is written. -/
theorem MapR.entry (hK : KeyT P T ek) (hmt : P.underlying mt = some (.map T E)) (z : ν) (hz : ∀ w, (zeroValue E).run P w = .ok (ev z) w) (h : MapR w m ek ev M) (k : κ) :
    ∃ w' st, (Instr.mapEntry mt (.map (some m)) (ek k)).run P w = .ok (.tuple #[ev ((get? M k).getD z), .int .i64 (st : Nat)]) w' ∧ MapE w' m ek ev (upd M k ((get? M k).getD z)) st k ∧ Mod [m] w w' := by
  have hlt := h.lt
  obtain ⟨es, clk, hm, hes, hb, hd, hn⟩ := h
  have hg := run_getObj (P := P) hm (by intro c e f h; cases h)
  have hf := hK.find k (M.map (·.1)) es.toList w (keys_of hes)
  cases hi : (M.map (·.1)).idxOf? k with
  | none =>
    have hk0 : get? M k = none := (get?_none M k).2 (idx_none hi)
    rw [hi] at hf
    rw [hk0]
    simp only [Option.getD_none]
    have hs := run_setObj (P := P) (o' := .map (es.push { key := ek k, val := ev z, born := clk }) (clk + 1)) hm (by intro c e f h; cases h)
    have hR := mapR_push hn hes hb hd hi (v := z) (w' := setM w m (.map (es.push { key := ek k, val := ev z, born := clk }) (clk + 1))) (set_mod hlt).2
    refine ⟨setM w m (.map (es.push { key := ek k, val := ev z, born := clk }) (clk + 1)), clk, ?_, ?_, (set_mod hlt).1⟩
    · simp only [Instr.mapEntry, Sem.run_bind, run_underlying hmt, Result.andThen_ok, hg, hK.chk, hf, Option.bind_none, hz, hs, Sem.run_pure, goInt]
    · obtain ⟨es', clk', h1, h2, h3, h4, h5⟩ := hR
      have h1' := h1
      rw [(set_mod hlt).2] at h1
      cases h1
      refine ⟨_, _, h1', h2, h3, h4, h5, M.length, { key := ek k, val := ev z, born := clk }, ?_, ?_, rfl⟩
      · rw [idxOf_upd k z, hi]
      · have : es.size = M.length := by have := congrArg List.length hes; simpa using this
        rw [← this]; simp
  | some i =>
    obtain ⟨e, p, he, hM, hp, hk, hv, hgt⟩ := idx_val hes hi
    rw [hi] at hf
    simp only [Option.bind_some, he, Option.map_some] at hf
    have he' : es[i]? = some e := by simpa using he
    rw [hgt]
    simp only [Option.getD_some]
    have hs := run_setObj (P := P) (o' := .map (es.modify i fun e => { e with key := ek k }) clk) hm (by intro c e f h; cases h)
    refine ⟨setM w m (.map (es.modify i fun e => { e with key := ek k }) clk), e.born, ?_, ?_, (set_mod hlt).1⟩
    · simp only [Instr.mapEntry, Sem.run_bind, run_underlying hmt, Result.andThen_ok, hg, hK.chk, hf, he', Option.map_some, Option.getD_some, hk, Instr.keyThatStays, hK.same, if_true, Sem.run_pure, hs, goInt, hv]
    · have hsame : (es.modify i fun e => { e with key := ek k }) = es := by
        apply Array.ext
        · simp
        · intro j h1 h2
          rw [Array.getElem_modify]
          split
          · rename_i hij
            subst hij
            have : es[i] = e := by
              have := he'
              rw [Array.getElem?_eq_getElem (by simpa using h2)] at this
              exact Option.some.inj this
            rw [this, ← hk]
          · rfl
      have hupd : upd M k p.2 = M := by
        rw [map_idx_upd k p.2 hn hi]
        apply List.ext_getElem?
        intro j
        rw [List.getElem?_modify]
        by_cases hij : i = j
        · subst hij; rw [hM]; simp [← hp]
        · cases M[j]? <;> simp [hij]
      rw [hsame]
      refine ⟨es, clk, (set_mod hlt).2, by rw [hupd]; exact hes, hb, hd, by rw [hupd]; exact hn, i, e, by rw [hupd]; exact hi, he', rfl⟩
theorem MapE.store {st : Nat} {k : κ} (h : MapE w m ek ev M st k) (v : ν) :
    ∃ w', (Instr.entryStore mt (.map (some m)) (.int .i64 (st : Nat)) (ev v)).run P w = .ok () w' ∧ MapR w' m ek ev (upd M k v) ∧ Mod [m] w w' := by
  have hlt := h.mapR.lt
  obtain ⟨es, clk, hm, hes, hb, hd, hn, i, e, hi, he, hst⟩ := h
  have hg := run_getObj (P := P) hm (by intro c e f h; cases h)
  have hfi : es.findIdx? (fun e => (e.born : Int) == (st : Int)) = some i := by
    rw [Array.findIdx?_eq_some_iff_getElem]
    have hi' : i < es.size := (Array.getElem?_eq_some_iff.1 he).1
    have hei : es[i] = e := (Array.getElem?_eq_some_iff.1 he).2
    refine ⟨hi', by simp [hei, hst], fun j hj => ?_⟩
    simp only [beq_iff_eq, Int.natCast_inj]
    intro hjst
    have hj' : j < es.size := by omega
    have h1 : (es.toList.map (·.born))[j]? = (es.toList.map (·.born))[i]? := by
      simp [he, hst, hj', hjst]
    have := (List.getElem?_inj (by simpa using hj') hd).1 h1
    omega
  have hs := run_setObj (P := P) (o' := .map (es.modify i fun e => { e with val := ev v }) clk) hm (by intro c e f h; cases h)
  refine ⟨setM w m (.map (es.modify i fun e => { e with val := ev v }) clk), ?_, mapR_modify hn hes hb hd hi (v := v) (fun e => { e with val := ev v }) (fun e hk => ⟨hk, rfl, rfl⟩) (set_mod hlt).2, (set_mod hlt).1⟩
  simp only [Instr.entryStore, Sem.run_bind, hg, Result.andThen_ok, asInt, asIntOf, Sem.run_pure, hfi]
  exact hs
/-- 'delete(m, k)'. -/
theorem MapR.delete (hK : KeyT P T ek) (hmt : P.underlying mt = some (.map T E)) (ty : TypeId) (kt : TypeId) (h : MapR w m ek ev M) (k : κ) :
    ∃ w', (Builtin.delete_ #[mt, kt] ty #[.map (some m), ek k]).run P w = .ok (.tuple #[]) w' ∧ MapR w' m ek ev (del M k) ∧ Mod [m] w w' := by
  have hlt := h.lt
  obtain ⟨es, clk, hm, hes, hb, hd, hn⟩ := h
  have hg := run_getObj (P := P) hm (by intro c e f h; cases h)
  have hf := hK.find k (M.map (·.1)) es.toList w (keys_of hes)
  cases hi : (M.map (·.1)).idxOf? k with
  | none =>
    rw [hi] at hf
    have hs := run_setObj (P := P) (o' := .map es clk) hm (by intro c e f h; cases h)
    refine ⟨setM w m (.map es clk), ?_, ⟨es, clk, (set_mod hlt).2, ?_, hb, hd, nodup_del M k hn⟩, (set_mod hlt).1⟩
    · simp only [Builtin.delete_, Sem.run_bind, run_underlying hmt, Result.andThen_ok, hg, hK.chk, hf, Option.bind_none, List.getElem?_toArray, List.getElem?_cons_zero, List.getElem?_cons_succ, hs, Sem.run_pure]
    · rw [hes]
      congr 1
      unfold del
      symm
      rw [List.filter_eq_self]
      intro p hp
      have := idx_none hi
      simp only [ne_eq, decide_eq_true_eq]
      intro h; exact this (List.mem_map.2 ⟨p, hp, h⟩)
  | some i =>
    obtain ⟨e, p, he, hM, hp, hk, hv, -⟩ := idx_val hes hi
    rw [hi] at hf
    simp only [Option.bind_some, he, Option.map_some] at hf
    have hs := run_setObj (P := P) (o' := .map (es.eraseIdxIfInBounds i) clk) hm (by intro c e f h; cases h)
    have hdel : del M k = M.eraseIdx i := by
      unfold del
      have hi' := (List.getElem?_eq_some_iff.1 hM)
      have hsplit : M = M.take i ++ p :: M.drop (i + 1) := by
        have := List.take_append_drop i M
        rw [List.drop_eq_getElem_cons hi'.1, hi'.2] at this
        exact this.symm
      rw [List.eraseIdx_eq_take_drop_succ]
      conv => lhs; rw [hsplit]
      rw [List.filter_append, List.filter_cons]
      simp only [hp, ne_eq, not_true_eq_false, decide_false, Bool.false_eq_true, if_false]
      have hn2 := hn
      rw [hsplit, List.map_append, List.map_cons, List.nodup_append, List.nodup_cons] at hn2
      congr 1
      · rw [List.filter_eq_self]
        intro q hq
        simp only [decide_eq_true_eq]
        intro h
        exact hn2.2.2 q.1 (List.mem_map.2 ⟨q, hq, rfl⟩) p.1 (by simp) (h.trans hp.symm)
      · rw [List.filter_eq_self]
        intro q hq
        simp only [decide_eq_true_eq]
        intro h
        exact hn2.2.1.1 (List.mem_map.2 ⟨q, hq, h.trans hp.symm⟩)
    have herase : (es.eraseIdxIfInBounds i).toList = es.toList.eraseIdx i := by
      have : i < es.size := by have := (List.getElem?_eq_some_iff.1 he).1; simpa using this
      simp [Array.eraseIdxIfInBounds, this]
    refine ⟨setM w m (.map (es.eraseIdxIfInBounds i) clk), ?_, ⟨_, clk, (set_mod hlt).2, ?_, ?_, ?_, nodup_del M k hn⟩, (set_mod hlt).1⟩
    · simp only [Builtin.delete_, Sem.run_bind, run_underlying hmt, Result.andThen_ok, hg, hK.chk, hf, List.getElem?_toArray, List.getElem?_cons_zero, List.getElem?_cons_succ, hs, Sem.run_pure]
    · rw [herase, hdel, List.eraseIdx_eq_take_drop_succ, List.eraseIdx_eq_take_drop_succ, List.map_append, List.map_append, List.map_take, List.map_drop, hes, List.map_take, List.map_drop]
    · intro e' he'
      rw [herase] at he'
      exact hb e' (List.mem_of_mem_eraseIdx he')
    · rw [herase]
      exact hd.sublist ((List.eraseIdx_sublist _ _).map _)
/-! At the operation. -/
section
variable {ops : Array Oper} {rest : List Oper} {o : Oper} {a : Act} {Q : Exit → Act → World → Prop}
theorem wpList_update (hg : o.guard = none) (mo x v : Operand) (hop : o.op = Op.mapUpdate mt mo x v) (hK : KeyT P T ek) (hmt : P.underlying mt = some (.map T E)) (h : MapR w m ek ev M) (k : κ) (val : ν)
    (hm : a.eval mo = .map (some m)) (hx : a.eval x = ek k) (hv : a.eval v = ev val) (hk : ∀ w', MapR w' m ek ev (upd M k val) → Mod [m] w w' → wpList P ops Q rest (a.put o.dst undef) w') : wpList P ops Q (o :: rest) a w := by
  refine wpList_plain hg fun K hK' => ?_
  obtain ⟨w', hr, h1, h2⟩ := h.update hK hmt k val
  unfold Oper.wp execOp
  simp only [hop, hm, hx, hv, Sem.run_bind, hr, Result.andThen_ok, Sem.run_pure]
  exact hK' _ _ (hk w' h1 h2)
theorem wpList_entry (hg : o.guard = none) (mo x : Operand) (hop : o.op = Op.mapEntry mt mo x) (hK : KeyT P T ek) (hmt : P.underlying mt = some (.map T E)) (z : ν) (hz : ∀ w, (zeroValue E).run P w = .ok (ev z) w) (h : MapR w m ek ev M) (k : κ)
    (hm : a.eval mo = .map (some m)) (hx : a.eval x = ek k)
    (hk : ∀ w' st, MapE w' m ek ev (upd M k ((get? M k).getD z)) st k → Mod [m] w w' → wpList P ops Q rest (a.put o.dst (.tuple #[ev ((get? M k).getD z), .int .i64 (st : Nat)])) w') : wpList P ops Q (o :: rest) a w := by
  refine wpList_plain hg fun K hK' => ?_
  obtain ⟨w', st, hr, h1, h2⟩ := h.entry hK hmt z hz k
  unfold Oper.wp execOp
  simp only [hop, hm, hx, Sem.run_bind, hr, Result.andThen_ok, Sem.run_pure]
  exact hK' _ _ (hk w' st h1 h2)
theorem wpList_entryStore (hg : o.guard = none) (mo s v : Operand) (hop : o.op = Op.entryStore mt mo s v) {st : Nat} {k : κ} (h : MapE w m ek ev M st k) (val : ν)
    (hm : a.eval mo = .map (some m)) (hs : a.eval s = .int .i64 (st : Nat)) (hv : a.eval v = ev val)
    (hk : ∀ w', MapR w' m ek ev (upd M k val) → Mod [m] w w' → wpList P ops Q rest (a.put o.dst undef) w') : wpList P ops Q (o :: rest) a w := by
  refine wpList_plain hg fun K hK' => ?_
  obtain ⟨w', hr, h1, h2⟩ := h.store (P := P) (mt := mt) val
  unfold Oper.wp execOp
  simp only [hop, hm, hs, hv, Sem.run_bind, hr, Result.andThen_ok, Sem.run_pure]
  exact hK' _ _ (hk w' h1 h2)
theorem wpList_delete' (hg : o.guard = none) (mo x : Operand) (kt : TypeId) (hop : o.op = Op.call { callee := .builtin .delete, args := #[mo, x], argTypes := #[mt, kt] }) (hK : KeyT P T ek) (hmt : P.underlying mt = some (.map T E)) (h : MapR w m ek ev M) (k : κ)
    (hm : a.eval mo = .map (some m)) (hx : a.eval x = ek k)
    (hk : ∀ w', MapR w' m ek ev (del M k) → Mod [m] w w' → wpList P ops Q rest (a.put o.dst (.tuple #[])) w') : wpList P ops Q (o :: rest) a w := by
  refine wpList_plain hg fun K hK' => ?_
  obtain ⟨w', hr, h1, h2⟩ := h.delete hK hmt o.type kt k
  unfold Oper.wp execOp
  simp only [hop, resolve, invoke, builtin, Sem.run_bind, Sem.run_pure, Result.andThen_ok, List.map_toArray, List.map_cons, List.map_nil, hm, hx, hr]
  exact hK' _ _ (hk w' h1 h2)
end
end
end
end Go.Proofs.Ytldlolpbnfgdeaa
