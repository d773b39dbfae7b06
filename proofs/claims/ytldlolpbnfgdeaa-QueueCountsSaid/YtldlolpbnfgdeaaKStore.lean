/- Objects that are kept for ever: how they lie in memory; contracts of store.Ideal's methods. -/
import Derived.Test.YtldlolpbnfgdeaaKBase
import Derived.Test.YtldlolpbnfgdeaaProg
namespace Go.Proofs.Ytldlolpbnfgdeaa
open Go Go.RowKit

/-- A class, fields. -/
abbrev SObj := Int × List Nat
def u32v (n : Nat) : Value := .int .u32 (n : Int)
def flatO : List SObj → List Value → List Value
  | o :: L, v :: vs => .int .i64 o.1 :: v :: flatO L vs
  | _, _ => []
theorem flatO_length : ∀ (L : List SObj) (vs : List Value), vs.length = L.length → (flatO L vs).length = 2 * L.length
  | [], _, _ => rfl
  | _ :: _, [], h => by simp at h
  | o :: L, v :: vs, h => by simp only [flatO, List.length_cons] at *; rw [flatO_length L vs (by omega)]; omega
theorem flatO_cls : ∀ (L : List SObj) (vs : List Value) (i : Nat) (o : SObj), vs.length = L.length → L[i]? = some o → (flatO L vs)[2 * i]? = some (.int .i64 o.1)
  | [], _, _, _, _, h => by simp at h
  | _ :: _, [], _, _, h, _ => by simp at h
  | o :: L, v :: vs, 0, o', h, h' => by simp [flatO] at *; rw [h']
  | o :: L, v :: vs, i + 1, o', h, h' => by
    simp only [List.getElem?_cons_succ] at h'
    rw [show 2 * (i + 1) = 2 * i + 1 + 1 by omega]
    simp only [flatO, List.getElem?_cons_succ]
    exact flatO_cls L vs i o' (by simpa using h) h'
theorem flatO_val : ∀ (L : List SObj) (vs : List Value) (i : Nat) (v : Value), vs.length = L.length → vs[i]? = some v → (flatO L vs)[2 * i + 1]? = some v
  | _, [], _, _, _, h => by simp at h
  | [], _ :: _, _, _, h, _ => by simp at h
  | o :: L, v :: vs, 0, v', h, h' => by simp [flatO] at *; rw [h']
  | o :: L, v :: vs, i + 1, v', h, h' => by
    simp only [List.getElem?_cons_succ] at h'
    rw [show 2 * (i + 1) + 1 = 2 * i + 1 + 1 + 1 by omega]
    simp only [flatO, List.getElem?_cons_succ]
    exact flatO_val L vs i v' (by simpa using h) h'
theorem flatO_append : ∀ (L : List SObj) (vs : List Value) (o : SObj) (v : Value), vs.length = L.length → flatO (L ++ [o]) (vs ++ [v]) = flatO L vs ++ [.int .i64 o.1, v]
  | [], [], _, _, _ => rfl
  | [], _ :: _, _, _, h => by simp at h
  | _ :: _, [], _, _, h => by simp at h
  | o :: L, v :: vs, o', v', h => by simp [flatO, flatO_append L vs o' v' (by simpa using h)]

/-- How objects lie: the block p of type TI holds one slice; its rows of two cells. -/
structure IR (TI TO TU : TypeId) (w : World) (p : Nat) (lv : Value) (vs : List Value) (L : List SObj) : Prop where
  hp : w.heap[p]? = some (.cells #[lv] TI (0, 0))
  hl : Own w TO 2 lv L.length (flatO L vs)
  len : vs.length = L.length
  hf : ∀ (i : Nat) (o : SObj) (v : Value), L[i]? = some o → vs[i]? = some v → Own w TU 1 v o.2.length (o.2.map u32v)
  nd : (p :: (ob lv ++ vs.flatMap ob)).Nodup
def irF (p : Nat) (lv : Value) (vs : List Value) : List Nat := p :: (ob lv ++ vs.flatMap ob)
def IRep (TI TO TU : TypeId) (w : World) (p : Nat) (L : List SObj) (F : List Nat) : Prop := ∃ lv vs, IR TI TO TU w p lv vs L ∧ F = irF p lv vs

section
variable {TI TO TU : TypeId} {w w' : World} {p : Nat} {L : List SObj} {F : List Nat}
theorem IRep.lt (h : IRep TI TO TU w p L F) : ∀ b ∈ F, b < w.heap.size := by
  obtain ⟨lv, vs, h, rfl⟩ := h
  intro b hb
  simp only [irF, List.mem_cons, List.mem_append, List.mem_flatMap] at hb
  rcases hb with rfl | hb | ⟨v, hv, hb⟩
  · exact lt_of_blk h.hp
  · exact h.hl.lt' b hb
  · obtain ⟨i, hi, rfl⟩ := List.getElem_of_mem hv
    have hi' : i < L.length := by rw [← h.len]; exact hi
    exact (h.hf i L[i] vs[i] (List.getElem?_eq_getElem hi') (List.getElem?_eq_getElem hi)).lt' b hb
theorem IRep.frame (h : IRep TI TO TU w p L F) (hf : ∀ b ∈ F, w'.heap[b]? = w.heap[b]?) : IRep TI TO TU w' p L F := by
  obtain ⟨lv, vs, h, rfl⟩ := h
  refine ⟨lv, vs, ⟨?_, ?_, h.len, ?_, h.nd⟩, rfl⟩
  · rw [hf p (by simp [irF])]; exact h.hp
  · exact h.hl.frame fun b hb => hf b (by simp only [irF, List.mem_cons, List.mem_append]; exact .inr (.inl hb))
  · intro i o v ho hv
    exact (h.hf i o v ho hv).frame fun b hb => hf b (by
      simp only [irF, List.mem_cons, List.mem_append, List.mem_flatMap]
      exact .inr (.inr ⟨v, List.mem_of_getElem? hv, hb⟩))
theorem IRep.mod (h : IRep TI TO TU w p L F) {G : List Nat} (hm : Mod G w w') (hd : ∀ b ∈ F, b ∉ G) : IRep TI TO TU w' p L F :=
  h.frame fun b hb => hm.block b (h.lt b hb) (hd b hb)
end

/-- An identity's object. -/
def getO (L : List SObj) (id : Int) : Option SObj := if 4 ≤ id then L[(id - 4).toNat]? else none
def clsO (L : List SObj) (id : Int) : Int := match getO L id with | some o => o.1 | none => -1
def lenO (L : List SObj) (id : Int) : Int := match getO L id with | some o => o.2.length | none => -1
def fldO (L : List SObj) (id i : Int) : Option Nat := match getO L id with | some o => if 0 ≤ i then o.2[i.toNat]? else none | none => none

theorem getO_some {L : List SObj} {id : Int} {o : SObj} (h : getO L id = some o) : 4 ≤ id ∧ (id - 4).toNat < L.length ∧ L[(id - 4).toNat]? = some o := by
  unfold getO at h
  split at h
  · exact ⟨by assumption, (List.getElem?_eq_some_iff.1 h).1, h⟩
  · cases h
theorem getO_none {L : List SObj} {id : Int} (h : getO L id = none) : id < 4 ∨ (L.length : Int) ≤ id - 4 := by
  unfold getO at h
  split at h
  · have := List.getElem?_eq_none_iff.1 h; omega
  · omega

section
variable {w : World} {p : Nat} {L : List SObj} {F : List Nat}
/-- What 'at' gives where the object is there. -/
theorem at_yes (g n cap : Nat) (id : Int) (w : World) (hp : w.cell? ⟨p, 0, none⟩ = some (.slice (some ⟨g, 0, none⟩) n cap)) (h4 : 4 ≤ id) (hlt : id - 4 < n) (hn : n ≤ 1073741824) :
    Calls Try.prog 62 #[.pointer (some ⟨p, 0, none⟩), .int .i64 id] w fun e w' => e = .returned (.pointer (some ⟨g, (id - 4).toNat * 2, none⟩)) ∧ w = w' := by
  go_enter Try.func62, Try.ntmps62
  go_wp2
  all_goals (go_ret; exact ⟨by simp, rfl⟩)
theorem at_no (v : Value) (a : Option Addr) (n cap : Nat) (id : Int) (w : World) (hv : v = .slice a n cap) (hp : w.cell? ⟨p, 0, none⟩ = some v) (h : id < 4 ∨ (n : Int) ≤ id - 4) (hid : -1073741824 ≤ id) (hid' : id ≤ 4294967296) (hn : n ≤ 1073741824) :
    Calls Try.prog 62 #[.pointer (some ⟨p, 0, none⟩), .int .i64 id] w fun e w' => e = .returned (.pointer none) ∧ w = w' := by
  subst hv
  rcases h with h | h
  · go_enter Try.func62, Try.ntmps62
    go_wp2
    all_goals (go_ret; exact ⟨rfl, rfl⟩)
  · go_enter Try.func62, Try.ntmps62
    go_wp2
    all_goals (go_ret; exact ⟨rfl, rfl⟩)
end

abbrev SRep (w : World) (p : Nat) (L : List SObj) (F : List Nat) : Prop := IRep 138 105 44 w p L F

/-- What is known of an object that is there. -/
theorem IR.obj {TI TO TU : TypeId} {w : World} {p : Nat} {lv : Value} {vs : List Value} {L : List SObj} {id : Int} {o : SObj} (h : IR TI TO TU w p lv vs L) (ho : getO L id = some o) :
    ∃ g cap v, lv = .slice (some ⟨g, 0, none⟩) L.length cap ∧ 4 ≤ id ∧ id - 4 < (L.length : Int) ∧ w.cell? ⟨p, 0, none⟩ = some (.slice (some ⟨g, 0, none⟩) L.length cap) ∧
      w.cell? ⟨g, (id - 4).toNat * 2, none⟩ = some (.int .i64 o.1) ∧ w.cell? ⟨g, (id - 4).toNat * 2 + 1, none⟩ = some v ∧ vs[(id - 4).toNat]? = some v ∧ Own w TU 1 v o.2.length (o.2.map u32v) := by
  obtain ⟨h4, hlt, hL⟩ := getO_some ho
  obtain ⟨g, cap, cur, hv, hg, hc1, hc2, hcs, htk⟩ := h.hl.form (by omega)
  have hi : (id - 4).toNat < vs.length := by rw [h.len]; exact hlt
  refine ⟨g, cap, vs[(id - 4).toNat], hv, h4, by omega, ?_, ?_, ?_, List.getElem?_eq_getElem hi, h.hf _ o _ hL (List.getElem?_eq_getElem hi)⟩
  · rw [cell_of_blk h.hp, hv]; rfl
  · rw [cell_of_blk hg]
    have := take_get htk (i := 2 * (id - 4).toNat) (by omega) _ (flatO_cls L vs _ o h.len hL)
    rw [Nat.mul_comm] at this
    simpa using this
  · rw [cell_of_blk hg]
    have := take_get htk (i := 2 * (id - 4).toNat + 1) (by omega) _ (flatO_val L vs _ _ h.len (List.getElem?_eq_getElem hi))
    rw [Nat.mul_comm] at this
    simpa using this
theorem IR.slice {TI TO TU : TypeId} {w : World} {p : Nat} {lv : Value} {vs : List Value} {L : List SObj} (h : IR TI TO TU w p lv vs L) :
    ∃ a cap, lv = .slice a L.length cap ∧ w.cell? ⟨p, 0, none⟩ = some (.slice a L.length cap) := by
  obtain ⟨a, cap, rfl, hcap, ha⟩ := h.hl.val
  exact ⟨a, cap, rfl, by rw [cell_of_blk h.hp]; rfl⟩
/-- A field's cell. -/
theorem Own.cell {w : World} {e : Nat} {v : Value} {n : Nat} {xs : List Value} (h : Own w e 1 v n xs) {i : Nat} (hi : i < n) :
    ∃ g cap u, v = .slice (some ⟨g, 0, none⟩) n cap ∧ xs[i]? = some u ∧ w.cell? ⟨g, i, none⟩ = some u := by
  obtain ⟨g, cap, cur, hv, hg, hc1, hc2, hcs, htk⟩ := h.form (by omega)
  have hl := h.1
  have hx : i < xs.length := by omega
  refine ⟨g, cap, xs[i], hv, List.getElem?_eq_getElem hx, ?_⟩
  rw [cell_of_blk hg]
  have := take_get htk (i := i) (by omega) _ (List.getElem?_eq_getElem hx)
  simpa using this

theorem Own.set {w : World} {e : Nat} {v : Value} {n g cap : Nat} {xs : List Value} (h : Own w e 1 v n xs) (hv : v = .slice (some ⟨g, 0, none⟩) n cap) {i : Nat} (hi : i < n) (u : Value) :
    Own (w.setCell ⟨g, i, none⟩ u) e 1 v n (xs.set i u) := by
  obtain ⟨g', cap', cur, hv', hg, hc1, hc2, hcs, htk⟩ := h.form (by omega)
  rw [hv] at hv'
  cases hv'
  refine ⟨by simpa using h.1, .inr ⟨g, cap, cur.setIfInBounds i u, hv, Nat.zero_le _, blk_set hg i u, hc1, hc2, by simpa using hcs, ?_⟩⟩
  simp only [Array.toList_setIfInBounds]
  rw [List.take_set, htk]
theorem Own.far {w : World} {e size n : Nat} {v : Value} {xs : List Value} (h : Own w e size v n xs) {a : Addr} (ha : a.block ∉ ob v) (u : Value) : Own (w.setCell a u) e size v n xs :=
  h.frame fun b hb => Below.heap_setCell w a u b (fun e => ha (e ▸ hb))

theorem IR.grow {TI TO TU : TypeId} {w w' : World} {p : Nat} {lv lv' v : Value} {vs : List Value} {L : List SObj} {o : SObj} (h : IR TI TO TU w p lv vs L)
    (hp' : w'.heap[p]? = some (.cells #[lv'] TI (0, 0))) (hl' : Own w' TO 2 lv' (L.length + 1) (flatO L vs ++ [.int .i64 o.1, v])) (hold : ∀ b ∈ vs.flatMap ob, w'.heap[b]? = w.heap[b]?)
    (hv : Own w' TU 1 v o.2.length (o.2.map u32v)) (hlv : ∀ b ∈ ob lv', b ∈ ob lv ∨ w.heap.size ≤ b) (hvf : ∀ b ∈ ob v, w.heap.size ≤ b) (hd : ∀ b ∈ ob v, b ∉ ob lv') :
    IR TI TO TU w' p lv' (vs ++ [v]) (L ++ [o]) ∧ ∀ b ∈ irF p lv' (vs ++ [v]), b ∈ irF p lv vs ∨ w.heap.size ≤ b := by
  have hlt : ∀ b ∈ vs.flatMap ob, b < w.heap.size := fun b hb => IRep.lt (L := L) (F := irF p lv vs) ⟨lv, vs, h, rfl⟩ b (by simp only [irF, List.mem_cons, List.mem_append]; exact .inr (.inr hb))
  have hnd := h.nd
  simp only [List.nodup_cons, List.mem_append, List.nodup_append, not_or] at hnd
  have hps := lt_of_blk h.hp
  have hobn : ∀ v : Value, (ob v).Nodup := fun v => by unfold ob; cases v.ownBlock <;> simp
  refine ⟨⟨hp', by rw [flatO_append L vs o v h.len]; simpa using hl', by simp [h.len], ?_, ?_⟩, ?_⟩
  · intro i o' v' ho hv'
    by_cases hi : i < L.length
    · rw [List.getElem?_append_left hi] at ho
      rw [List.getElem?_append_left (by rw [h.len]; exact hi)] at hv'
      exact (h.hf i o' v' ho hv').frame fun b hb => hold b (List.mem_flatMap.2 ⟨v', List.mem_of_getElem? hv', hb⟩)
    · rw [List.getElem?_append_right (by omega)] at ho
      rw [List.getElem?_append_right (by rw [h.len]; omega), h.len] at hv'
      have h0 : i - L.length = 0 := by
        have := (List.getElem?_eq_some_iff.1 ho).1
        simp at this
        omega
      rw [h0] at ho hv'
      simp at ho hv'
      subst ho hv'
      exact hv
  · simp only [List.nodup_cons, List.mem_append, List.nodup_append, not_or, List.flatMap_append, List.flatMap_cons, List.flatMap_nil, List.append_nil]
    refine ⟨⟨fun hb => (hlv p hb).elim hnd.1.1 (fun h => by omega), hnd.1.2, fun hb => by have := hvf p hb; omega⟩, hobn lv', ⟨hnd.2.2.1, hobn v, fun a ha b hb e => by subst e; have := hlt a ha; have := hvf a hb; omega⟩, fun a ha b hb e => ?_⟩
    subst e
    rcases hb with hb | hb
    · exact (hlv a ha).elim (fun h => hnd.2.2.2 a h a hb rfl) (fun h => by have := hlt a hb; omega)
    · exact hd a hb ha
  · intro b hb
    simp only [irF, List.mem_cons, List.mem_append, List.flatMap_append, List.flatMap_cons, List.flatMap_nil, List.append_nil] at hb ⊢
    rcases hb with rfl | hb | hb | hb
    · exact .inl (.inl rfl)
    · exact (hlv b hb).imp (fun h => .inr (.inl h)) (fun h => h)
    · exact .inl (.inr (.inr hb))
    · exact .inr (hvf b hb)

/-- A field is put. -/
def putO (L : List SObj) (id i : Int) (x : Nat) : List SObj := L.modify (id - 4).toNat fun o => (o.1, o.2.set i.toNat x)
theorem putO_length (L : List SObj) (id i : Int) (x : Nat) : (putO L id i x).length = L.length := by simp [putO]
theorem flatO_modify : ∀ (L : List SObj) (vs : List Value) (i : Nat) (f : SObj → SObj), (∀ o, (f o).1 = o.1) → flatO (L.modify i f) vs = flatO L vs
  | [], _, _, _, _ => by simp
  | _ :: _, [], 0, _, _ => by simp [flatO]
  | _ :: _, [], _ + 1, _, _ => by simp [flatO]
  | o :: L, v :: vs, 0, f, hf => by simp [flatO, hf]
  | o :: L, v :: vs, i + 1, f, hf => by simp [flatO, flatO_modify L vs i f hf]
theorem nodup_flatMap_ne : ∀ {vs : List Value} (_ : (vs.flatMap ob).Nodup) {i j : Nat} {v v' : Value} (_ : vs[i]? = some v) (_ : vs[j]? = some v') (_ : i ≠ j) (b : Nat), b ∈ ob v → b ∉ ob v'
  | [], _, _, _, _, _, h, _, _, _ => by simp at h
  | x :: vs, hn, 0, 0, _, _, _, _, hij, _ => absurd rfl hij
  | x :: vs, hn, 0, j + 1, v, v', h, h', _, b => by
    simp only [List.flatMap_cons, List.nodup_append] at hn
    intro hb hb'
    simp at h h'
    subst h
    exact hn.2.2 b hb b (List.mem_flatMap.2 ⟨v', List.mem_of_getElem? h', hb'⟩) rfl
  | x :: vs, hn, i + 1, 0, v, v', h, h', _, b => by
    simp only [List.flatMap_cons, List.nodup_append] at hn
    intro hb hb'
    simp at h h'
    subst h'
    exact hn.2.2 b hb' b (List.mem_flatMap.2 ⟨v, List.mem_of_getElem? h, hb⟩) rfl
  | x :: vs, hn, i + 1, j + 1, v, v', h, h', hij, b => by
    simp only [List.flatMap_cons, List.nodup_append] at hn
    exact nodup_flatMap_ne hn.2.1 (by simpa using h) (by simpa using h') (by omega) b
theorem IR.put {TI TO TU : TypeId} {w : World} {p : Nat} {lv : Value} {vs : List Value} {L : List SObj} (h : IR TI TO TU w p lv vs L) {id i : Int} {o : SObj} (ho : getO L id = some o) (hi0 : 0 ≤ i) (hi1 : i < o.2.length)
    {g cap : Nat} (hv : vs[(id - 4).toNat]? = some (.slice (some ⟨g, 0, none⟩) o.2.length cap)) (x : Nat) : IR TI TO TU (w.setCell ⟨g, i.toNat, none⟩ (u32v x)) p lv vs (putO L id i x) := by
  obtain ⟨h4, hlt, hL⟩ := getO_some ho
  have hnd := h.nd
  simp only [List.nodup_cons, List.mem_append, List.nodup_append, not_or] at hnd
  have hmem : g ∈ vs.flatMap ob := List.mem_flatMap.2 ⟨_, List.mem_of_getElem? hv, by simp [ob, Value.ownBlock]⟩
  refine ⟨blk_far h.hp (fun e => hnd.1.2 (e ▸ hmem)) _, ?_, by rw [putO_length]; exact h.len, ?_, h.nd⟩
  · rw [putO_length, putO, flatO_modify L vs _ (fun o => (o.1, o.2.set i.toNat x)) (fun _ => rfl)]
    exact h.hl.far (fun e => hnd.2.2.2 g e g hmem rfl) _
  · intro j o' v' hj hv'
    rw [putO, List.getElem?_modify] at hj
    by_cases hij : (id - 4).toNat = j
    · subst hij
      simp [hL] at hj
      subst hj
      rw [hv] at hv'
      cases hv'
      have := (h.hf _ o _ hL hv).set rfl (i := i.toNat) (by omega) (u32v x)
      simpa [List.map_set] using this
    · have hj : L[j]? = some o' := by
        cases hLj : L[j]? with
        | none => simp [hLj] at hj
        | some q => simp [hLj, hij] at hj; rw [hj]
      refine (h.hf j o' v' hj hv').far ?_ _
      exact nodup_flatMap_ne hnd.2.2.1 hv hv' hij g (by simp [ob, Value.ownBlock])

section
variable {w : World} {p : Nat} {L : List SObj} {F : List Nat}
theorem s_class (id : Int) (h : SRep w p L F) (hid : -1073741824 ≤ id) (hid' : id ≤ 4294967296) (hn : L.length ≤ 1073741824) :
    Calls Try.prog 26 #[.pointer (some ⟨p, 0, none⟩), .int .i64 id] w fun e w' => e = .returned (.int .i64 (clsO L id)) ∧ w = w' := by
  obtain ⟨lv, vs, h, rfl⟩ := h
  cases ho : getO L id with
  | none =>
    obtain ⟨a, cap, rfl, hcell⟩ := h.slice
    rw [show clsO L id = -1 by unfold clsO; rw [ho]]
    have hb := getO_none ho
    go_enter Try.func26, Try.ntmps26
    go_wp2_with (go_at_call 62; refine (at_no _ _ _ _ _ _ rfl hcell hb hid hid' hn).mono ?_; rintro e w' ⟨rfl, rfl⟩)
    go_ret
    exact ⟨rfl, rfl⟩
  | some o =>
    rw [show clsO L id = o.1 by unfold clsO; rw [ho]]
    obtain ⟨g, cap, v, rfl, h4, hlt, hcell, hc0, -, -, -⟩ := h.obj ho
    clear ho
    go_enter Try.func26, Try.ntmps26
    go_wp2_with (go_at_call 62; refine (at_yes _ _ _ _ _ hcell h4 hlt hn).mono ?_; rintro e w' ⟨rfl, rfl⟩)
    go_ret
    exact ⟨rfl, rfl⟩
theorem s_fields (id : Int) (h : SRep w p L F) (hid : -1073741824 ≤ id) (hid' : id ≤ 4294967296) (hn : L.length ≤ 1073741824) :
    Calls Try.prog 23 #[.pointer (some ⟨p, 0, none⟩), .int .i64 id] w fun e w' => e = .returned (.int .i64 (lenO L id)) ∧ w = w' := by
  obtain ⟨lv, vs, h, rfl⟩ := h
  cases ho : getO L id with
  | none =>
    obtain ⟨a, cap, rfl, hcell⟩ := h.slice
    rw [show lenO L id = -1 by unfold lenO; rw [ho]]
    have hb := getO_none ho
    go_enter Try.func23, Try.ntmps23
    go_wp2_with (go_at_call 62; refine (at_no _ _ _ _ _ _ rfl hcell hb hid hid' hn).mono ?_; rintro e w' ⟨rfl, rfl⟩)
    go_ret
    exact ⟨rfl, rfl⟩
  | some o =>
    rw [show lenO L id = o.2.length by unfold lenO; rw [ho]]
    obtain ⟨g, cap, v, rfl, h4, hlt, hcell, -, hc1, -, hv⟩ := h.obj ho
    obtain ⟨a', cap', rfl, -, -⟩ := hv.val
    clear ho
    go_enter Try.func23, Try.ntmps23
    go_wp2_with (go_at_call 62; refine (at_yes _ _ _ _ _ hcell h4 hlt hn).mono ?_; rintro e w' ⟨rfl, rfl⟩)
    go_ret
    exact ⟨rfl, rfl⟩
def getVal (r : Option Nat) : Value := match r with | some x => .tuple #[u32v x, .bool true] | none => .tuple #[u32v 0, .bool false]
theorem s_get (id i : Int) (h : SRep w p L F) (hid : -1073741824 ≤ id) (hid' : id ≤ 4294967296) (hn : L.length ≤ 1073741824) (hw : ∀ o ∈ L, o.2.length ≤ 62) :
    Calls Try.prog 24 #[.pointer (some ⟨p, 0, none⟩), .int .i64 id, .int .i64 i] w fun e w' => e = .returned (getVal (fldO L id i)) ∧ w = w' := by
  obtain ⟨lv, vs, h, rfl⟩ := h
  cases ho : getO L id with
  | none =>
    obtain ⟨a, cap, rfl, hcell⟩ := h.slice
    rw [show fldO L id i = none by unfold fldO; rw [ho]]
    have hb := getO_none ho
    go_enter Try.func24, Try.ntmps24
    go_wp2_with (go_at_call 62; refine (at_no _ _ _ _ _ _ rfl hcell hb hid hid' hn).mono ?_; rintro e w' ⟨rfl, rfl⟩)
    go_ret2
    exact ⟨rfl, rfl⟩
  | some o =>
    obtain ⟨g, cap, v, rfl, h4, hlt, hcell, -, hc1, -, hv⟩ := h.obj ho
    have hol : o.2.length ≤ 62 := hw o (by have := (getO_some ho).2.2; exact List.mem_of_getElem? this)
    by_cases hi : 0 ≤ i ∧ i < o.2.length
    · obtain ⟨hi0, hi1⟩ := hi
      obtain ⟨g', cap', u, rfl, hu, hcu⟩ := hv.cell (i := i.toNat) (by omega)
      have hx : o.2[i.toNat]? = some o.2[i.toNat] := List.getElem?_eq_getElem (by omega)
      rw [show fldO L id i = some o.2[i.toNat] by unfold fldO; rw [ho]; simp only; rw [if_pos hi0]; exact hx]
      rw [List.getElem?_map, hx] at hu
      simp only [Option.map_some, Option.some.injEq] at hu
      subst hu
      generalize o.2[i.toNat] = x at *
      clear ho hx
      go_enter Try.func24, Try.ntmps24
      go_wp2_with (go_at_call 62; refine (at_yes _ _ _ _ _ hcell h4 hlt hn).mono ?_; rintro e w' ⟨rfl, rfl⟩)
      all_goals (go_ret2; exact ⟨rfl, rfl⟩)
    · obtain ⟨a', cap', rfl, -, -⟩ := hv.val
      rw [show fldO L id i = none by
        unfold fldO; rw [ho]; simp only
        split
        · exact List.getElem?_eq_none (by omega)
        · rfl]
      clear ho
      by_cases hi0 : i < 0
      · go_enter Try.func24, Try.ntmps24
        go_wp2_with (go_at_call 62; refine (at_yes _ _ _ _ _ hcell h4 hlt hn).mono ?_; rintro e w' ⟨rfl, rfl⟩)
        all_goals (go_ret2; exact ⟨rfl, rfl⟩)
      · have hi1 : (o.2.length : Int) ≤ i := by omega
        go_enter Try.func24, Try.ntmps24
        go_wp2_with (go_at_call 62; refine (at_yes _ _ _ _ _ hcell h4 hlt hn).mono ?_; rintro e w' ⟨rfl, rfl⟩)
        all_goals (go_ret2; exact ⟨rfl, rfl⟩)
theorem s_put_no (id i : Int) (x : Nat) (h : SRep w p L F) (hid : -1073741824 ≤ id) (hid' : id ≤ 4294967296) (hn : L.length ≤ 1073741824) (hw : ∀ o ∈ L, o.2.length ≤ 62) (hx : fldO L id i = none ∨ x = 0) :
    Calls Try.prog 52 #[.pointer (some ⟨p, 0, none⟩), .int .i64 id, .int .i64 i, u32v x] w fun e w' => e = .returned (.bool false) ∧ w = w' := by
  have hg := s_get (w := w) id i h hid hid' hn hw
  cases hf : fldO L id i with
  | none =>
    rw [hf] at hg
    unfold getVal at hg
    clear h hf hx
    go_enter Try.func52, Try.ntmps52
    go_wp2_with (go_at_call 24; refine hg.mono ?_; rintro e w' ⟨rfl, rfl⟩)
    go_ret
    exact ⟨rfl, rfl⟩
  | some y =>
    rw [hf] at hg hx
    unfold getVal at hg
    have hx0 : x = 0 := by simpa using hx
    subst hx0
    unfold u32v at hg ⊢
    clear h hf hx
    go_enter Try.func52, Try.ntmps52
    go_wp2_with (go_at_call 24; refine hg.mono ?_; rintro e w' ⟨rfl, rfl⟩)
    go_ret
    exact ⟨rfl, rfl⟩
theorem fldO_some {id i : Int} {y : Nat} (hf : fldO L id i = some y) : ∃ o, getO L id = some o ∧ 0 ≤ i ∧ i < o.2.length ∧ o.2[i.toNat]? = some y := by
  unfold fldO at hf
  cases ho : getO L id with
  | none => rw [ho] at hf; cases hf
  | some o =>
    rw [ho] at hf
    simp only at hf
    split at hf
    · have := (List.getElem?_eq_some_iff.1 hf).1
      exact ⟨o, rfl, by omega, by omega, hf⟩
    · cases hf
theorem s_put (id i : Int) (x y : Nat) (h : SRep w p L F) (hid : -1073741824 ≤ id) (hid' : id ≤ 4294967296) (hn : L.length ≤ 1073741824) (hw : ∀ o ∈ L, o.2.length ≤ 62) (hf : fldO L id i = some y) (hx0 : x ≠ 0) :
    Calls Try.prog 52 #[.pointer (some ⟨p, 0, none⟩), .int .i64 id, .int .i64 i, u32v x] w fun e w' =>
      e = .returned (.bool true) ∧ SRep w' p (putO L id i x) F ∧ Mod F w w' := by
  have hg := s_get (w := w) id i h hid hid' hn hw
  rw [hf] at hg
  unfold getVal at hg
  obtain ⟨lv, vs, h, rfl⟩ := h
  obtain ⟨o, ho, hi0, hi1, -⟩ := fldO_some hf
  obtain ⟨g, cap, v, rfl, h4, hlt, hcell, -, hc1, hvs, hv⟩ := h.obj ho
  have hol : o.2.length ≤ 62 := hw o (by have := (getO_some ho).2.2; exact List.mem_of_getElem? this)
  obtain ⟨g', cap', u, rfl, hu, hcu⟩ := hv.cell (i := i.toNat) (by omega)
  obtain ⟨_, _, cur', hv', hg', -⟩ := hv.form (by omega)
  cases hv'
  have hfz := frozen_of_blk hg' i.toNat
  have hfin := h.put ho hi0 hi1 hvs x
  have hm : g' ∈ irF p (.slice (some ⟨g, 0, none⟩) L.length cap) vs := by
    simp only [irF, List.mem_cons, List.mem_append, List.mem_flatMap]
    exact .inr (.inr ⟨_, List.mem_of_getElem? hvs, by simp [ob, Value.ownBlock]⟩)
  have hx0' : ((x : Int) == 0) = false := by simpa using hx0
  unfold u32v at hg hfin ⊢
  have Hfin := Lib.hid hfin
  clear hfin h hf ho hu hvs hv hg'
  go_enter Try.func52, Try.ntmps52
  go_wp2_with (first | (go_at_call 24; refine hg.mono ?_; rintro e w' ⟨rfl, rfl⟩) | (go_at_call 62; refine (at_yes _ _ _ _ _ hcell h4 hlt hn).mono ?_; rintro e w' ⟨rfl, rfl⟩))
  go_ret
  exact ⟨rfl, ⟨_, _, Hfin.out, rfl⟩, (Mod.refl _ _).set _ (.inl hm)⟩
end
end Go.Proofs.Ytldlolpbnfgdeaa
