/- Operations follow the machine: the first half. -/
import Derived.Test.YtojeldemfccilaaGreatDoorKMachA
import Derived.Laws.Tables
import Derived.ChangeKeysEq
import Derived.Laws.StructEq
set_option linter.unusedSimpArgs false
set_option linter.unusedVariables false
namespace Go.Proofs.YtojeldemfccilaaGreatDoor.AA
open Go Go.RowKit
def ckV1 : Value → AV → Bool
  | .bool b, .bool c => b == c
  | .int k n, .int j m => k == j && n == m
  | .string s, .str l => s.data.toList.map UInt8.toNat == l
  | .pointer none, .ptr none => true
  | .slice none 0 0, .slice none _ 0 _ => true
  | .map none, .map none => true
  | .nilFunc, .nilFunc => true
  | .nilIface, .nilIface => true
  | _, _ => false
def ckVL : List Value → List AV → Bool
  | [], [] => true
  | v :: vs, a :: as => ckV1 v a && ckVL vs as
  | _, _ => false
def ckV : Value → AV → Bool
  | .agg cs, .agg l => ckVL cs.toList l
  | v, a => ckV1 v a
def ckO : Operand → AOpnd → Bool
  | .tmp t, .t i => t == i
  | .const v, .c a => ckV v a
  | .func f, .c (.func (.func g) [] []) => f == g
  | _, _ => false
section
variable {Z : Nat → Prop} {ρ : Rho} {H H' : AHeap} {w w' : World} {P : Program}
theorem ckV1_R {v : Value} {a : AV} (h : ckV1 v a = true) : R ρ a v ∧ a.flat = true := by
  unfold ckV1 at h
  split at h <;> first
    | (cases h; done)
    | (simp at h; simp only [R]; exact ⟨by simp_all, rfl⟩)
    | (simp at h; obtain ⟨rfl, rfl⟩ := h; simp only [R]; exact ⟨rfl, rfl⟩)
    | (simp only [R]; simp [AV.flat])
    | (simp at h; simp only [R]; exact ⟨⟨_, rfl, h⟩, rfl⟩)
theorem ckVL_R : ∀ {vs : List Value} {l : List AV}, ckVL vs l = true → RL ρ l vs ∧ l.all AV.flat = true
  | [], [], _ => ⟨rfl, rfl⟩
  | v :: vs, a :: as, h => by
    simp only [ckVL, Bool.and_eq_true] at h
    obtain ⟨h1, h2⟩ := ckV1_R (ρ := ρ) h.1
    obtain ⟨h3, h4⟩ := ckVL_R h.2
    simp only [RL]
    exact ⟨⟨v, vs, rfl, h1, h3⟩, by simp [h2, h4]⟩
  | [], _ :: _, h => by simp [ckVL] at h
  | _ :: _, [], h => by simp [ckVL] at h
theorem ckV_R {v : Value} {a : AV} (h : ckV v a = true) : R ρ a v := by
  unfold ckV at h
  split at h
  · obtain ⟨h1, h2⟩ := ckVL_R (ρ := ρ) h
    simp only [R]
    exact ⟨_, rfl, h1, h2⟩
  · exact (ckV1_R h).1
theorem ckO_R {x : Operand} {y : AOpnd} {fr : AFr} {a : Act} {v : AV} (h : ckO x y = true) (hf : RF ρ fr a) (hv : fr.ev y = some v) : R ρ v (a.eval x) := by
  unfold ckO at h
  split at h
  · simp at h; subst h
    obtain ⟨u, hu, hr⟩ := hf _ _ hv
    simpa [Act.eval, hu] using hr
  · simp only [AFr.ev, Option.some.injEq] at hv; subst hv
    exact ckV_R h
  · simp only [AFr.ev, Option.some.injEq] at hv; subst hv
    simp at h; subst h
    simp only [R, Act.eval]
    exact ⟨#[], #[], rfl, rfl, rfl⟩
  · cases h
def ckOs : List Operand → List AOpnd → Bool
  | [], [] => true
  | x :: xs, y :: ys => ckO x y && ckOs xs ys
  | _, _ => false
theorem ckOs_R : ∀ {xs : List Operand} {ys : List AOpnd} {fr : AFr} {a : Act} {vs : List AV}, ckOs xs ys = true → RF ρ fr a → evs fr ys = some vs → RL ρ vs (xs.map a.eval)
  | [], [], fr, a, vs, _, _, hv => by simp [evs] at hv; subst hv; rfl
  | x :: xs, y :: ys, fr, a, vs, h, hf, hv => by
    simp only [ckOs, Bool.and_eq_true] at h
    simp only [evs] at hv
    split at hv
    · cases hv
    · rename_i v hv1
      split at hv
      · cases hv
      · rename_i vs' hv2
        cases hv
        simp only [List.map_cons, RL]
        exact ⟨_, _, rfl, ckO_R h.1 hf hv1, ckOs_R h.2 hf hv2⟩
  | [], _ :: _, _, _, _, h, _, _ => by simp [ckOs] at h
  | _ :: _, [], _, _, _, h, _, _ => by simp [ckOs] at h
def ckOo : Option Operand → Option AOpnd → Bool
  | none, none => true
  | some x, some y => ckO x y
  | _, _ => false
def Dn (P : Program) (Z : Nat → Prop) (ρ : Rho) (w : World) (v : AV) (H' : AHeap) (s : Sem Next) : Prop :=
  ∃ ρ' w' nx u, s.run P w = .ok nx w' ∧ (nx = .value u ∨ (nx = .skip ∧ u = undef)) ∧ Ext ρ ρ' ∧ HS Z ρ' H' w' ∧ Kp Z w w' ∧ R ρ' v u
theorem Dn.val {s : Sem Value} {v : AV} {u : Value} {ρ' : Rho} (h : s.run P w = .ok u w') (hx : Ext ρ ρ') (hs : HS Z ρ' H' w') (hk : Kp Z w w') (hr : R ρ' v u) : Dn P Z ρ w v H' (do pure (.value (← s))) :=
  ⟨ρ', w', .value u, u, by simp [h], .inl rfl, hx, hs, hk, hr⟩
theorem Dn.pure {s : Sem Value} {v : AV} {u : Value} (hs : HS Z ρ H w) (h : s.run P w = .ok u w) (hr : R ρ v u) : Dn P Z ρ w v H (do pure (.value (← s))) :=
  Dn.val h (Ext.refl _) hs (Kp.refl _ _) hr
theorem Dn.unit {s : Sem Unit} {ρ' : Rho} (h : s.run P w = .ok () w') (hx : Ext ρ ρ') (hs : HS Z ρ' H' w') (hk : Kp Z w w') : Dn P Z ρ w (.tuple []) H' (do s; Pure.pure .skip) :=
  ⟨ρ', w', .skip, undef, by simp [h], .inr ⟨rfl, rfl⟩, hx, hs, hk, by simp only [R]; exact ⟨#[], rfl, rfl⟩⟩
def ckSz (P : Program) (t : TypeId) (n : Nat) : Bool := match P.info? t with | some i => i.size == n | none => false
def aggB (P : Program) (t : TypeId) : Bool := match P.underlying t with | some (.struct _) | some (.array ..) => true | _ => false
def ckAg (P : Program) (t : TypeId) (b : Bool) : Bool := (P.underlying t).isSome && aggB P t == b
def ckZ (P : Program) (t : TypeId) (zs : List AV) : Bool := match P.info? t with | some i => (match i.zero with | some z => ckVL z.cells.toList zs | none => false) | none => false
theorem ckSz_s {t : TypeId} {n : Nat} (h : ckSz P t n = true) : ∃ i, P.info? t = some i ∧ i.size = n := by
  unfold ckSz at h
  split at h
  · rename_i i hi; exact ⟨i, hi, by simpa using h⟩
  · cases h
theorem run_size {t : TypeId} {n : Nat} (h : ckSz P t n = true) (w : World) : (sizeOf t).run P w = .ok n w := by
  obtain ⟨i, hi, rfl⟩ := ckSz_s h
  simp [sizeOf, typeInfo, hi]
theorem run_agg {t : TypeId} {b : Bool} (h : ckAg P t b = true) (w : World) : (isAgg t).run P w = .ok b w := by
  simp only [ckAg, Bool.and_eq_true, beq_iff_eq] at h
  obtain ⟨h1, rfl⟩ := h
  obtain ⟨d, hd⟩ := Option.isSome_iff_exists.1 h1
  unfold isAgg aggB
  simp only [Sem.run_bind, run_underlying hd, Result.andThen_ok, hd]
  cases d <;> rfl
theorem ckZ_s {t : TypeId} {zs : List AV} (h : ckZ P t zs = true) : ∃ i z, P.info? t = some i ∧ i.zero = some z ∧ ckVL z.cells.toList zs = true := by
  unfold ckZ at h
  split at h
  · rename_i i hi
    split at h
    · rename_i z hz; exact ⟨i, z, hi, hz, h⟩
    · cases h
  · cases h
theorem run_zero {t : TypeId} {zs : List AV} (h : ckZ P t zs = true) (w : World) : ∃ z, (zeroValue t).run P w = .ok z w ∧ ckVL z.cells.toList zs = true := by
  obtain ⟨i, z, hi, hz, hc⟩ := ckZ_s h
  exact ⟨z, by simp [zeroValue, typeInfo, hi, hz], hc⟩
end
section
variable {Z : Nat → Prop} {ρ : Rho} {H H' : AHeap} {w w' : World} {P : Program}
theorem aggOf_R {agg : Bool} {l : List AV} {v : AV} {vs : List Value} (h : aggOf agg l = some v) (hr : RL ρ l vs) (hf : l.all AV.flat = true) :
    (agg = true ∧ R ρ v (.agg vs.toArray)) ∨ (agg = false ∧ ∃ u, vs = [u] ∧ R ρ v u) := by
  unfold aggOf at h
  cases agg
  · simp only [cond_false] at h
    split at h
    · cases h
      simp only [RL] at hr
      obtain ⟨u, vs', rfl, h1, rfl⟩ := hr
      exact .inr ⟨rfl, u, rfl, h1⟩
    · cases h
  · simp only [cond_true] at h; cases h
    refine .inl ⟨rfl, ?_⟩
    simp only [R]
    exact ⟨_, rfl, by simpa using hr, hf⟩
theorem run_loadVar {t : TypeId} {n : Nat} {agg : Bool} (hs : ckSz P t n = true) (ha : ckAg P t agg = true) {g o : Nat} {vs : List Value} (hn : vs.length = n) (hc : ∀ (j : Nat) (u : Value), vs[j]? = some u → w.cell? ⟨g, o + j, none⟩ = some u) :
    (agg = true → (loadVar t ⟨g, o, none⟩).run P w = .ok (.agg vs.toArray) w) ∧ (agg = false → ∀ u, vs = [u] → (loadVar t ⟨g, o, none⟩).run P w = .ok u w) := by
  refine ⟨fun e => ?_, fun e u hu => ?_⟩
  · subst e
    unfold loadVar
    simp only [Sem.run_bind, run_agg ha, Result.andThen_ok, if_true, run_size hs]
    subst hn
    rw [run_loads P vs hc]
    rfl
  · subst e; subst hu
    have h0 := hc 0 u rfl
    unfold loadVar
    simp only [Sem.run_bind, run_agg ha, Result.andThen_ok, Bool.false_eq_true, if_false]
    simp only [Nat.add_zero] at h0
    simp [load, Sem.run, h0]
theorem load_sim {t : TypeId} {n : Nat} {agg : Bool} (hs : ckSz P t n = true) (ha : ckAg P t agg = true) (h : HS Z ρ H w) {b i : Nat} {X : Value} (hX : R ρ (.ptr (some (b, i))) X) {l : List AV} {v : AV} (hl : loadA H b i n = some l) (hv : aggOf agg l = some v) :
    ∃ u, (Instr.loadAt t X).run P w = .ok u w ∧ R ρ v u := by
  simp only [R] at hX
  obtain ⟨g, o, N, hb, rfl⟩ := hX
  obtain ⟨vs, h1, h2, h3, h4, h5, h6⟩ := h.load hl hb
  obtain ⟨q1, q2⟩ := run_loadVar (P := P) (w := w) hs ha h1 h2
  rcases aggOf_R hv h3 h4 with ⟨e, hr⟩ | ⟨e, u, hu, hr⟩
  · exact ⟨_, by simp only [Instr.loadAt, Instr.sureAddr, Sem.run_bind, Sem.run_pure, Result.andThen_ok]; exact q1 e, hr⟩
  · exact ⟨u, by simp only [Instr.loadAt, Instr.sureAddr, Sem.run_bind, Sem.run_pure, Result.andThen_ok]; exact q2 e u hu, hr⟩
theorem stores_sim (h : HS Z ρ H w) {b i : Nat} {l : List AV} {vs : List Value} (hr : RL ρ l vs) (hf : l.all AV.flat = true) (hH : storeA H b i l = some H') {g o N : Nat} (hb : ρ b = some (g, o, N)) :
    ∃ w', (storeCells ⟨g, o + i, none⟩ vs).run P w = .ok () w' ∧ HS Z ρ H' w' ∧ Kp Z w w' := by
  unfold storeA at hH
  split at hH
  · rename_i c m par hb'
    cases hc : (i + l.length).ble m
    · rw [hc] at hH; cases hH
    · rw [hc] at hH; cases hH
      obtain ⟨g', o', N', C, e, fz, h1, h2, h3, h4, h5, h6⟩ := h.write (h.ng hb) hb' hr hf (Nat.le_of_ble_eq_true hc)
      rw [hb] at h1; cases h1
      have h1c : ∀ v ∈ vs, v.oneCell' = true := fun v hv => by
        obtain ⟨j, hj, rfl⟩ := List.getElem_of_mem hv
        have hjl : j < l.length := by rw [← hr.length]; exact hj
        obtain ⟨u, hu, hru⟩ := hr.get (List.getElem?_eq_getElem hjl)
        rw [List.getElem?_eq_getElem hj] at hu; cases hu
        exact hru.one (List.all_eq_true.1 hf _ (List.getElem_mem hjl))
      obtain ⟨w', q1, q2⟩ := run_stores P (o := o + i) (i := 0) vs C w h3 h4 (by omega) h1c
      exact ⟨w', q1, h6 w' (by simpa using q2), q2.kp h2⟩
  · cases hH
theorem store_sim {t : TypeId} {n : Nat} (hs : ckSz P t n = true) (h : HS Z ρ H w) {b i : Nat} {X V : Value} {v : AV} (hX : R ρ (.ptr (some (b, i))) X) (hV : R ρ v V) (hb : v.boxy = true) (hn : v.cells.length = n) (hH : storeA H b i v.cells = some H') :
    ∃ w', (Instr.storeAt t X V).run P w = .ok () w' ∧ HS Z ρ H' w' ∧ Kp Z w w' := by
  simp only [R] at hX
  obtain ⟨g, o, N, hρ, rfl⟩ := hX
  obtain ⟨h1, h2⟩ := hV.cells hb
  obtain ⟨w', q1, q2, q3⟩ := stores_sim (P := P) h h1 h2 hH hρ
  refine ⟨w', ?_, q2, q3⟩
  have hsz : V.cells.size = n := by rw [← hn, ← h1.length]; simp
  simp only [Instr.storeAt, Instr.sureAddr, storeVar, Sem.run_bind, Sem.run_pure, Result.andThen_ok, run_size hs, hsz, ne_eq, not_true_eq_false, if_false]
  exact q1
theorem newRow_sim (h : HS Z ρ H w) {l : List AV} {vs : Array Value} (hr : RL ρ l vs.toList) (hf : l.all AV.flat = true) (e : TypeId) :
    ∃ ρ' w', (newRow e vs).run P w = .ok ⟨w.heap.size, 0, none⟩ w' ∧ Ext ρ ρ' ∧ HS Z ρ' (H.newRow l) w' ∧ Kp Z w w' ∧ ρ' H.next = some (w.heap.size, 0, vs.size) := by
  obtain ⟨h1, h2, h3⟩ := h.newCells (C := vs) (e := e) (fz := (0, 0)) hr hf (fun j u hu => by simpa using hu) (fun j _ ⟨_, h⟩ => by simp at h)
  exact ⟨_, _, by simp [newRow, newObj, Sem.run], h2, h1, h3, by simp [bump]⟩
theorem box_sim (h : HS Z ρ H w) {v : AV} {V : Value} (hV : R ρ v V) (hb : v.boxy = true) (e : TypeId) :
    ∃ ρ' w' u, (Instr.box e V).run P w = .ok u w' ∧ Ext ρ ρ' ∧ HS Z ρ' (H.newRow v.cells) w' ∧ Kp Z w w' ∧ R ρ' (.ptr (some (H.next, 0))) u := by
  obtain ⟨h1, h2⟩ := hV.cells hb
  obtain ⟨ρ', w', q1, q2, q3, q4, q5⟩ := newRow_sim (P := P) h h1 h2 e
  refine ⟨ρ', w', _, by simp only [Instr.box, newVar, Sem.run_bind, q1, Result.andThen_ok, Sem.run_pure]; rfl, q2, q3, q4, ?_⟩
  simp only [R]
  exact ⟨_, _, _, q5, rfl⟩
theorem alloc_sim (h : HS Z ρ H w) {e : TypeId} {zs : List AV} (hz : ckZ P e zs = true) (old : Value) :
    ∃ ρ' w' u, (Instr.alloc e true old).run P w = .ok u w' ∧ Ext ρ ρ' ∧ HS Z ρ' (H.newRow zs) w' ∧ Kp Z w w' ∧ R ρ' (.ptr (some (H.next, 0))) u := by
  obtain ⟨z, z1, z2⟩ := run_zero hz w
  obtain ⟨h1, h2⟩ := ckVL_R (ρ := ρ) z2
  obtain ⟨ρ', w', q1, q2, q3, q4, q5⟩ := newRow_sim (P := P) h h1 h2 e
  refine ⟨ρ', w', _, by simp only [Instr.alloc, newVar, Sem.run_bind, z1, q1, Result.andThen_ok, Sem.run_pure]; rfl, q2, q3, q4, ?_⟩
  simp only [R]
  exact ⟨_, _, _, q5, rfl⟩
def ckPs (pl : Nat → Option (Nat × Nat)) : List (Nat × Operand) → List (Nat × Nat × AOpnd) → Bool
  | [], [] => true
  | (i, x) :: xs, (off, size, y) :: ys => pl i == some (off, size) && ckO x y && ckPs pl xs ys
  | _, _ => false
theorem foldl_set (vs : List Value) : ∀ (off k : Nat) (C : Array Value), ((vs.zipIdx k).foldl (fun cs (p : Value × Nat) => cs.setIfInBounds (off + p.2) p.1) C) = wr C (off + k) vs := by
  induction vs with
  | nil => intro off k C; rfl
  | cons v vs ih =>
    intro off k C
    simp only [List.zipIdx_cons, List.foldl_cons, wr]
    rw [ih, Nat.add_assoc]
theorem setAt_get (l vs : List AV) (i : Nat) (h : i + vs.length ≤ l.length) (j : Nat) : (setAt l i vs)[j]? = if i ≤ j ∧ j < i + vs.length then vs[j - i]? else l[j]? := by
  unfold setAt
  have h1 : (l.take i).length = i := by simp; omega
  by_cases hj : j < i
  · rw [List.append_assoc, List.getElem?_append_left (by omega), if_neg (by omega), List.getElem?_take, if_pos hj]
  · by_cases hj2 : j < i + vs.length
    · rw [if_pos (by omega), List.append_assoc, List.getElem?_append_right (by omega), h1, List.getElem?_append_left (by omega)]
    · rw [if_neg (by omega), List.getElem?_append_right (by simp; omega), List.getElem?_drop]
      congr 1
      simp
      omega
theorem fill_sim {pl : Nat → Option (Nat × Nat)} {fr : AFr} {a : Act} (hfr : RF ρ fr a) : ∀ {xs : List (Nat × Operand)} {ys : List (Nat × Nat × AOpnd)} {cells l : List AV} {C : Array Value}, ckPs pl xs ys = true → RL ρ cells C.toList → cells.all AV.flat = true → fillA fr cells ys = some l →
    ∃ C' : Array Value, Instr.fill pl C (xs.map fun p => (p.1, a.eval p.2)) = some C' ∧ RL ρ l C'.toList ∧ l.all AV.flat = true
  | [], [], cells, l, C, _, hr, hf, hl => by
    simp only [fillA, Option.some.injEq] at hl; subst hl
    exact ⟨C, rfl, hr, hf⟩
  | (i, x) :: xs, (off, size, y) :: ys, cells, l, C, h, hr, hf, hl => by
    simp only [ckPs, Bool.and_eq_true, beq_iff_eq] at h
    obtain ⟨⟨hp, hx⟩, hrest⟩ := h
    simp only [fillA] at hl
    split at hl
    · cases hl
    · rename_i v hv
      cases hc1 : (v.boxy && v.cells.length.beq size)
      · rw [hc1] at hl; cases hl
      · rw [hc1] at hl
        simp only [cond_true] at hl
        cases hc2 : (off + size).ble cells.length
        · rw [hc2] at hl; cases hl
        · rw [hc2] at hl
          simp only [cond_true] at hl
          simp only [Bool.and_eq_true] at hc1
          have hsz := Nat.eq_of_beq_eq_true hc1.2
          have hle := Nat.le_of_ble_eq_true hc2
          obtain ⟨r1, r2⟩ := (ckO_R hx hfr hv).cells hc1.1
          have hl1 := r1.length
          have hl2 := hr.length
          simp only [Array.length_toList] at hl1 hl2
          have hnew : RL ρ (setAt cells off v.cells) (wr C off (a.eval x).cells.toList).toList := by
            refine RL.of_get ?_ fun j u hu => ?_
            · have : (setAt cells off v.cells).length = cells.length := by simp [setAt]; omega
              rw [this, Array.length_toList, wr_size]; omega
            · rw [setAt_get _ _ _ (by omega)] at hu
              have hw := wr_get (a.eval x).cells.toList C off j (by simp; omega)
              simp only [Array.length_toList] at hw
              rw [Array.getElem?_toList, hw]
              by_cases hj : off ≤ j ∧ j < off + v.cells.length
              · rw [if_pos hj] at hu
                rw [if_pos (by omega)]
                exact r1.get hu
              · rw [if_neg hj] at hu
                rw [if_neg (by omega)]
                have := hr.get hu
                simpa using this
          have hnf : (setAt cells off v.cells).all AV.flat = true := by
            simp only [setAt, List.all_append, Bool.and_eq_true]
            refine ⟨⟨?_, r2⟩, ?_⟩
            · rw [List.all_eq_true] at hf ⊢; exact fun x hx => hf x (List.mem_of_mem_take hx)
            · rw [List.all_eq_true] at hf ⊢; exact fun x hx => hf x (List.mem_of_mem_drop hx)
          obtain ⟨C', e1, e2, e3⟩ := fill_sim hfr hrest hnew hnf hl
          refine ⟨C', ?_, e2, e3⟩
          simp only [List.map_cons, Instr.fill, hp]
          rw [if_neg (by simp; omega)]
          have : ((a.eval x).cells.zipIdx.foldl (fun cs (p : Value × Nat) => cs.setIfInBounds (off + p.2) p.1) C) = wr C off (a.eval x).cells.toList := by
            rw [← Array.foldl_toList]
            simpa using foldl_set (a.eval x).cells.toList off 0 C
          rw [← e1]
          congr 1
  | [], _ :: _, _, _, _, h, _, _, _ => by simp [ckPs] at h
  | _ :: _, [], _, _, _, h, _, _, _ => by simp [ckPs] at h
end
section
variable {Z : Nat → Prop} {ρ : Rho} {H H' : AHeap} {w w' : World} {P : Program}
def plOf (P : Program) (t : TypeId) : Option (Nat → Option (Nat × Nat)) :=
  match P.underlying t with
  | some (.array _ e) => (match P.info? e with | some ie => some fun i => some (i * ie.size, ie.size) | none => none)
  | some (.struct fields) => (match fields.toList.mapM (fun f => (P.info? f.type).map fun i => (f.offset, i.size)) with | some places => some (places.toArray[·]?) | none => none)
  | _ => none
def ckBuild (P : Program) (t : TypeId) (parts : List (Nat × Operand)) (zs : List AV) (ps : List (Nat × Nat × AOpnd)) : Bool :=
  ckZ P t zs && (match plOf P t with | some pl => ckPs pl parts ps | none => false)
theorem build_sim {t : TypeId} {parts : Array (Nat × Operand)} {zs : List AV} {ps : List (Nat × Nat × AOpnd)} (hc : ckBuild P t parts.toList zs ps = true) {fr : AFr} {a : Act} (hfr : RF ρ fr a) {l : List AV} (hl : fillA fr zs ps = some l) :
    ∃ u, (Instr.build t (parts.map fun (i, x) => (i, a.eval x))).run P w = .ok u w ∧ R ρ (.agg l) u := by
  simp only [ckBuild, Bool.and_eq_true] at hc
  obtain ⟨hz, hp⟩ := hc
  obtain ⟨it, z, hi, hzz, hv⟩ := ckZ_s hz
  obtain ⟨r1, r2⟩ := ckVL_R (ρ := ρ) hv
  split at hp
  · rename_i pl hpl
    obtain ⟨C', e1, e2, e3⟩ := fill_sim hfr hp r1 r2 hl
    refine ⟨.agg C', run_build w t _ C' ?_, by simp only [R]; exact ⟨C', rfl, e2, e3⟩⟩
    have hm : (parts.map fun (i, x) => (i, a.eval x)).toList = parts.toList.map fun p => (p.1, a.eval p.2) := by simp
    unfold Program.built
    unfold plOf at hpl
    split at hpl
    · rename_i n e hu
      split at hpl
      · rename_i ie hie
        cases hpl
        simp only [hi, hu, hzz, hie, hm]
        exact e1
      · cases hpl
    · rename_i fields hu
      split at hpl
      · rename_i places hpp
        cases hpl
        simp only [hi, hu, hzz, hpp, hm]
        exact e1
      · cases hpl
    · cases hpl
  · cases hp
def ckBS (P : Program) (t : TypeId) (s len : Nat) (parts : List (Nat × Operand)) (zs : List AV) (ps : List (Nat × Nat × AOpnd)) : Bool :=
  match P.underlying t with
  | some (.slice e) => (match P.info? e with
    | some ie => ie.size == s && decide (len * s ≤ 16777216) && ckPs (fun i => some (i * s, s)) parts ps && (if len * s = 0 then zs.isEmpty else (match ie.zero with
      | some z => ckVL ((Array.range (len * s)).map (z.cells[· % z.cells.size]!)).toList zs
      | none => false))
    | none => false)
  | _ => false
theorem bslice_sim (h : HS Z ρ H w) {t : TypeId} {s len : Nat} {parts : Array (Nat × Operand)} {zs : List AV} {ps : List (Nat × Nat × AOpnd)} (hc : ckBS P t s len parts.toList zs ps = true) {fr : AFr} {a : Act} (hfr : RF ρ fr a) {l : List AV} (hl : fillA fr zs ps = some l) (hll : l.length = len * s) :
    ∃ ρ' w' u, (Instr.buildSlice t len (parts.map fun (i, x) => (i, a.eval x))).run P w = .ok u w' ∧ Ext ρ ρ' ∧ HS Z ρ' (H.newRow l) w' ∧ Kp Z w w' ∧ R ρ' (.slice (some (H.next, 0)) s len true) u := by
  unfold ckBS at hc
  split at hc
  · rename_i e hu
    split at hc
    · rename_i ie hie
      simp only [Bool.and_eq_true, beq_iff_eq, decide_eq_true_eq] at hc
      obtain ⟨⟨⟨rfl, hsm⟩, hp⟩, hz⟩ := hc
      have hm : (parts.map fun (i, x) => (i, a.eval x)).toList = parts.toList.map fun p => (p.1, a.eval p.2) := by simp
      have hsm' : ¬ (16777216 < len * ie.size) := by omega
      have key : ∃ C', (Instr.buildSlice t len (parts.map fun (i, x) => (i, a.eval x))).run P w = ((newRow e C').run P w).andThen (fun r w' => .ok (.slice (some r) len len) w') ∧ RL ρ l C'.toList ∧ l.all AV.flat = true := by
        by_cases h0 : len * ie.size = 0
        · rw [if_pos h0] at hz
          have hz' : zs = [] := by simpa using hz
          subst hz'
          obtain ⟨C', e1, e2, e3⟩ := fill_sim (ρ := ρ) (cells := []) (C := #[]) hfr hp (by simp only [RL]) rfl hl
          refine ⟨C', ?_, e2, e3⟩
          have e1' : Instr.fill (fun i => some (i * ie.size, ie.size)) #[] (parts.map fun (i, x) => (i, a.eval x)).toList = some C' := by rw [hm]; exact e1
          simp only [Instr.buildSlice, Sem.run_bind, run_underlying hu, Result.andThen_ok, sizeOf, typeInfo, run_program, hie, Sem.run_pure]
          rw [if_neg (by simpa using hsm')]
          simp [h0]
          rw [show (Array.map (fun _ => (default : Value)) (Array.range 0)) = #[] from by simp, e1]
          rfl
        · rw [if_neg h0] at hz
          split at hz
          · rename_i z hzz
            obtain ⟨r1, r2⟩ := ckVL_R (ρ := ρ) hz
            obtain ⟨C', e1, e2, e3⟩ := fill_sim hfr hp r1 r2 hl
            refine ⟨C', ?_, e2, e3⟩
            have e1' : Instr.fill (fun i => some (i * ie.size, ie.size)) ((Array.range (len * ie.size)).map (z.cells[· % z.cells.size]!)) (parts.map fun (i, x) => (i, a.eval x)).toList = some C' := by rw [hm]; exact e1
            simp only [Instr.buildSlice, Sem.run_bind, run_underlying hu, Result.andThen_ok, sizeOf, typeInfo, run_program, hie, Sem.run_pure]
            rw [if_neg (by simpa using hsm')]
            simp only [h0, if_false, zeroValue, typeInfo, Sem.run_bind, run_program, Result.andThen_ok, hie, hzz, Sem.run_pure]
            rw [e1']
            rfl
          · cases hz
      obtain ⟨C', k1, k2, k3⟩ := key
      obtain ⟨ρ', w', q1, q2, q3, q4, q5⟩ := newRow_sim (P := P) h k2 k3 e
      refine ⟨ρ', w', _, by rw [k1, q1]; rfl, q2, q3, q4, ?_⟩
      simp only [R]
      have := k2.length
      simp only [Array.length_toList] at this
      exact ⟨_, _, _, _, _, q5, rfl, Nat.le_refl _, fun _ => rfl, by omega, fun _ => rfl⟩
    · cases hc
  · cases hc
end
section
variable {Z : Nat → Prop} {ρ : Rho} {H H' : AHeap} {w w' : World} {P : Program}
def ckFA (P : Program) (t : TypeId) (f off : Nat) : Bool := match P.underlying t with
  | some (.struct fs) => (match fs[f]? with
    | some fd => fd.offset == off && (match P.info? fd.type with | some i => i.size != 0 | none => false)
    | none => false)
  | _ => false
theorem faddr_sim {t : TypeId} {f off b i : Nat} {X : Value} (hc : ckFA P t f off = true) (hX : R ρ (.ptr (some (b, i))) X) :
    ∃ u, (Instr.fieldAt t X f).run P w = .ok u w ∧ R ρ (.ptr (some (b, i + off))) u := by
  simp only [R] at hX
  obtain ⟨g, o, N, hb, rfl⟩ := hX
  unfold ckFA at hc
  split at hc
  · rename_i fs hu
    split at hc
    · rename_i fd hf
      simp only [Bool.and_eq_true, beq_iff_eq] at hc
      obtain ⟨rfl, hc⟩ := hc
      split at hc
      · rename_i it hi
        have h0 : it.size ≠ 0 := by simpa using hc
        refine ⟨.pointer (some ⟨g, o + i + fd.offset, none⟩), ?_, by simp only [R]; exact ⟨g, o, N, hb, by rw [Nat.add_assoc]⟩⟩
        simp [Instr.fieldAt, run_underlying hu, hf, Instr.sureAddr, fieldPlace, sizeOf, typeInfo, hi, h0, add_at]
      · cases hc
    · cases hc
  · cases hc
theorem run_part {t : TypeId} {n : Nat} {agg : Bool} (hs : ckSz P t n = true) (ha : ckAg P t agg = true) {cs : List AV} {C : Array Value} (hr : RL ρ cs C.toList) (hf : cs.all AV.flat = true) {off : Nat} {v : AV} (hv : aggOf agg ((cs.drop off).take n) = some v) :
    ∃ u, (part t C off).run P w = .ok u w ∧ R ρ v u := by
  have hr' := (hr.drop off).take n
  have hf' : ((cs.drop off).take n).all AV.flat = true := by rw [List.all_eq_true] at hf ⊢; exact fun x hx => hf x (List.mem_of_mem_drop (List.mem_of_mem_take hx))
  rcases aggOf_R hv hr' hf' with ⟨rfl, q⟩ | ⟨rfl, u, hu, q⟩
  · refine ⟨_, ?_, q⟩
    simp only [part, Sem.run_bind, run_agg ha, Result.andThen_ok, if_true, run_size hs, Sem.run_pure]
    congr 2
    apply Array.ext'
    simp [Nat.add_sub_cancel_left]
  · refine ⟨u, ?_, q⟩
    have h0 : C[off]? = some u := by
      have := congrArg (fun l => l[0]?) hu
      simp only [List.getElem?_take, List.getElem?_drop, List.getElem?_cons_zero] at this
      split at this
      · simpa using this
      · cases this
    simp only [part, Sem.run_bind, run_agg ha, Result.andThen_ok, Bool.false_eq_true, if_false, h0, Sem.run_pure]
def ckFd (P : Program) (t : TypeId) (f off n : Nat) (agg : Bool) : Bool := match P.underlying t with
  | some (.struct fs) => (match fs[f]? with
    | some fd => fd.offset == off && ckSz P fd.type n && ckAg P fd.type agg
    | none => false)
  | _ => false
theorem field_sim {t : TypeId} {f off n : Nat} {agg : Bool} {X : Value} {cs : List AV} {v : AV} (hc : ckFd P t f off n agg = true) (hX : R ρ (.agg cs) X) (hv : aggOf agg ((cs.drop off).take n) = some v) :
    ∃ u, (Instr.field t X f).run P w = .ok u w ∧ R ρ v u := by
  simp only [R] at hX
  obtain ⟨C, rfl, h1, h2⟩ := hX
  unfold ckFd at hc
  split at hc
  · rename_i fs hu
    split at hc
    · rename_i fd hf
      simp only [Bool.and_eq_true, beq_iff_eq] at hc
      obtain ⟨⟨rfl, hs⟩, ha⟩ := hc
      obtain ⟨u, q1, q2⟩ := run_part (P := P) (w := w) hs ha h1 h2 hv
      exact ⟨u, by simp only [Instr.field, Sem.run_bind, run_underlying hu, Result.andThen_ok, hf, asAgg, Sem.run_pure, q1], q2⟩
    · cases hc
  · cases hc
def ckArr (P : Program) (t : TypeId) (len s : Nat) : Bool := match P.underlying t with
  | some (.array n e) => n == len && ckSz P e s
  | _ => false
def ckSl (P : Program) (t : TypeId) (s : Nat) : Bool := match P.underlying t with
  | some (.slice e) => ckSz P e s
  | _ => false
theorem iaddrA_sim {t : TypeId} {len s b o : Nat} {k : IntKind} {i : Int} {X I : Value} (hc : ckArr P t len s = true) (hX : R ρ (.ptr (some (b, o))) X) (hI : R ρ (.int k i) I) (h0 : 0 ≤ i) (h1 : i < len) :
    ∃ u, (Instr.indexAt t X I).run P w = .ok u w ∧ R ρ (.ptr (some (b, o + i.toNat * s))) u := by
  simp only [R] at hX hI
  obtain ⟨g, p, N, hb, rfl⟩ := hX
  subst hI
  unfold ckArr at hc
  split at hc
  · rename_i n e hu
    simp only [Bool.and_eq_true, beq_iff_eq] at hc
    obtain ⟨rfl, hs⟩ := hc
    refine ⟨.pointer (some ⟨g, p + o + i.toNat * s, none⟩), ?_, by simp only [R]; exact ⟨g, p, N, hb, by rw [Nat.add_assoc]⟩⟩
    simp [Instr.indexAt, asIntOf, run_underlying hu, Instr.sureAddr, h0, h1, run_size hs, add_at]
  · cases hc
theorem iaddrS_sim {t : TypeId} {s b o len s' : Nat} {clip : Bool} {k : IntKind} {i : Int} {X I : Value} (hc : ckSl P t s = true) (hX : R ρ (.slice (some (b, o)) s' len clip) X) (hI : R ρ (.int k i) I) (h0 : 0 ≤ i) (h1 : i < len) :
    ∃ u, (Instr.indexAt t X I).run P w = .ok u w ∧ R ρ (.ptr (some (b, o + i.toNat * s))) u := by
  simp only [R] at hX hI
  obtain ⟨g, p, N, ad, cap, hb, rfl, hcap, -, -, had⟩ := hX
  have := had (by omega)
  subst this
  subst hI
  unfold ckSl at hc
  split at hc
  · rename_i e hu
    refine ⟨.pointer (some ⟨g, p + o + i.toNat * s, none⟩), ?_, by simp only [R]; exact ⟨g, p, N, hb, by rw [Nat.add_assoc]⟩⟩
    simp [Instr.indexAt, asIntOf, run_underlying hu, h0, h1, run_size hc, add_at]
  · cases hc
def ckIx (P : Program) (t : TypeId) (len s : Nat) (agg : Bool) : Bool := match P.underlying t with
  | some (.array n e) => n == len && ckSz P e s && ckAg P e agg
  | _ => false
theorem idxA_sim {t : TypeId} {len s : Nat} {agg : Bool} {cs : List AV} {k : IntKind} {i : Int} {X I : Value} {v : AV} (hc : ckIx P t len s agg = true) (hX : R ρ (.agg cs) X) (hI : R ρ (.int k i) I) (h0 : 0 ≤ i) (h1 : i < len) (hv : aggOf agg ((cs.drop (i.toNat * s)).take s) = some v) :
    ∃ u, (Instr.index t X I).run P w = .ok u w ∧ R ρ v u := by
  simp only [R] at hX hI
  obtain ⟨C, rfl, r1, r2⟩ := hX
  subst hI
  unfold ckIx at hc
  split at hc
  · rename_i n e hu
    simp only [Bool.and_eq_true, beq_iff_eq] at hc
    obtain ⟨⟨rfl, hs⟩, ha⟩ := hc
    obtain ⟨u, q1, q2⟩ := run_part (P := P) (w := w) hs ha r1 r2 hv
    refine ⟨u, ?_, q2⟩
    simp only [Instr.index, asIntOf, Sem.run_bind, Sem.run_pure, Result.andThen_ok, run_underlying hu]
    rw [if_pos ⟨h0, h1⟩]
    simp only [Sem.run_bind, run_size hs, Result.andThen_ok, q1]
  · cases hc
theorem str_get {s : ByteArray} {l : List Nat} (h : s.data.toList.map UInt8.toNat = l) (i : Nat) : l[i]? = (s[i]?).map UInt8.toNat := by
  subst h
  rw [List.getElem?_map, Array.getElem?_toList]
  rfl
theorem str_len {s : ByteArray} {l : List Nat} (h : s.data.toList.map UInt8.toNat = l) : s.size = l.length := by
  subst h; simp
theorem idxS_sim {t : TypeId} {l : List Nat} {k : IntKind} {i : Int} {X I : Value} {n : Nat} (hc : P.underlying t = some .string) (hX : R ρ (.str l) X) (hI : R ρ (.int k i) I) (h0 : 0 ≤ i) (hn : l[i.toNat]? = some n) :
    ∃ u, (Instr.index t X I).run P w = .ok u w ∧ R ρ (.int .u8 n) u := by
  simp only [R] at hX hI
  obtain ⟨s, rfl, hs⟩ := hX
  subst hI
  rw [str_get hs] at hn
  cases hb : s[i.toNat]? with
  | none => rw [hb] at hn; cases hn
  | some c =>
    rw [hb] at hn
    simp at hn
    refine ⟨.int .u8 n, ?_, by simp only [R]⟩
    simp only [Instr.index, asIntOf, Sem.run_bind, Sem.run_pure, Result.andThen_ok, run_underlying hc, if_pos h0, hb]
    rw [← hn]
theorem extract_sim {l : List AV} {X : Value} {i : Nat} {v : AV} (hX : R ρ (.tuple l) X) (hv : l[i]? = some v) : ∃ u, (Instr.extract X i).run P w = .ok u w ∧ R ρ v u := by
  simp only [R] at hX
  obtain ⟨C, rfl, hr⟩ := hX
  obtain ⟨u, hu, hru⟩ := hr.get hv
  refine ⟨u, ?_, hru⟩
  have : C[i]? = some u := by simpa using hu
  simp [Instr.extract, this]
end
section
variable {Z : Nat → Prop} {ρ : Rho} {H H' : AHeap} {w w' : World} {P : Program}
def ckSK (d : Option TypeDesc) : SK → Bool
  | .bool => (match d with | some .bool => true | _ => false)
  | .int => (match d with | some (.int _) => true | _ => false)
  | .str => (match d with | some .string => true | _ => false)
  | .ptr => (match d with | some (.pointer _) => true | _ => false)
  | .slice => (match d with | some (.slice _) => true | _ => false)
  | .map => (match d with | some (.map ..) => true | _ => false)
  | .func => (match d with | some (.func ..) => true | _ => false)
  | .iface => (match d with | some (.interface _) => true | _ => false)
theorem strs_eq {b c : ByteArray} : (b.data.toList.map UInt8.toNat == c.data.toList.map UInt8.toNat) = (b == c) := by
  have hinj : ∀ (l m : List UInt8), (l.map UInt8.toNat == m.map UInt8.toNat) = (l == m) := by
    intro l
    induction l with
    | nil => intro m; cases m <;> rfl
    | cons x l ih =>
      intro m
      cases m with
      | nil => rfl
      | cons y m =>
        simp only [List.map_cons, List.cons_beq_cons, ih]
        congr 1
        rw [Bool.eq_iff_iff]
        simp [UInt8.toNat_inj]
  rw [hinj]
  obtain ⟨⟨x⟩⟩ := b
  obtain ⟨⟨y⟩⟩ := c
  show (x == y) = ((⟨x⟩ : Array UInt8) == ⟨y⟩)
  simp
theorem ckSK_s {t : TypeId} {k : SK} (hc : ckSK (P.underlying t) k = true) : match k with
    | .bool => P.underlying t = some .bool
    | .int => ∃ q, P.underlying t = some (.int q)
    | .str => P.underlying t = some .string
    | .ptr => ∃ e, P.underlying t = some (.pointer e)
    | .slice => ∃ e, P.underlying t = some (.slice e)
    | .map => ∃ a b, P.underlying t = some (.map a b)
    | .func => ∃ a b c, P.underlying t = some (.func a b c)
    | .iface => ∃ m, P.underlying t = some (.interface m) := by
  cases k <;> simp only [ckSK] at hc ⊢ <;> split at hc <;> first
    | (cases hc; done)
    | (rename_i h; exact h)
    | (rename_i h; exact ⟨_, h⟩)
    | (rename_i h; exact ⟨_, _, h⟩)
    | (rename_i h; exact ⟨_, _, _, h⟩)
set_option maxHeartbeats 2000000 in
theorem sameS_sim {t : TypeId} {k : SK} (hc : ckSK (P.underlying t) k = true) {x y : AV} {X Y : Value} (hx : R ρ x X) (hy : R ρ y Y) {b : Bool} (h : sameS k x y = some b) (d : Nat) : (Op.equalIn (d + 1) t X Y).run P w = .ok b w := by
  have hs := ckSK_s hc
  cases k with
  | bool =>
    simp only at hs
    cases x <;> cases y <;> simp [sameS] at h
    simp only [R] at hx hy
    subst hx hy
    rw [← h]
    simp [Op.equalIn, run_underlying hs]
  | int =>
    obtain ⟨q, hs⟩ := hs
    cases x <;> cases y <;> simp [sameS] at h
    simp only [R] at hx hy
    subst hx hy
    obtain ⟨rfl, h⟩ := h
    rw [← h]
    simp [Op.equalIn, run_underlying hs]
  | str =>
    simp only at hs
    cases x <;> cases y <;> simp [sameS] at h
    simp only [R] at hx hy
    obtain ⟨a, rfl, rfl⟩ := hx
    obtain ⟨c, rfl, rfl⟩ := hy
    rw [← h, strs_eq]
    simp [Op.equalIn, run_underlying hs]
  | ptr =>
    obtain ⟨e, hs⟩ := hs
    cases x <;> cases y <;> simp [sameS] at h
    rename_i a c
    cases a with
    | none =>
      simp only [R] at hx; subst hx
      cases c with
      | none => simp only [R] at hy; subst hy; simp [sameS] at h; subst h; simp [Op.equalIn, run_underlying hs]
      | some c => obtain ⟨g, o, N, -, rfl⟩ := (by simpa only [R] using hy : ∃ g o N, _ ∧ Y = _); simp [sameS] at h; subst h; simp [Op.equalIn, run_underlying hs]
    | some a =>
      obtain ⟨g, o, N, -, rfl⟩ := (by simpa only [R] using hx : ∃ g o N, _ ∧ X = _)
      cases c with
      | none => simp only [R] at hy; subst hy; simp [sameS] at h; subst h; simp [Op.equalIn, run_underlying hs]
      | some c => simp [sameS] at h
  | slice =>
    obtain ⟨e, hs⟩ := hs
    cases x <;> cases y <;> simp [sameS] at h
    rename_i a _ _ _ c _ _ _
    cases a with
    | none =>
      simp only [R] at hx; obtain ⟨-, rfl⟩ := hx
      cases c with
      | none => simp only [R] at hy; obtain ⟨-, rfl⟩ := hy; simp [sameS] at h; subst h; simp [Op.equalIn, run_underlying hs]
      | some c => simp only [R] at hy; obtain ⟨g, o, N, ad, cap, -, rfl, -⟩ := hy; simp [sameS] at h; subst h; simp [Op.equalIn, run_underlying hs]
    | some a =>
      simp only [R] at hx; obtain ⟨g, o, N, ad, cap, -, rfl, -⟩ := hx
      cases c with
      | none => simp only [R] at hy; obtain ⟨-, rfl⟩ := hy; simp [sameS] at h; subst h; simp [Op.equalIn, run_underlying hs]
      | some c => simp [sameS] at h
  | map =>
    obtain ⟨e, e', hs⟩ := hs
    cases x <;> cases y <;> simp [sameS] at h
    rename_i a c
    cases a with
    | none =>
      simp only [R] at hx; subst hx
      cases c with
      | none => simp only [R] at hy; subst hy; simp [sameS] at h; subst h; simp [Op.equalIn, run_underlying hs]
      | some c => simp only [R] at hy; obtain ⟨g, o, N, -, rfl⟩ := hy; simp [sameS] at h; subst h; simp [Op.equalIn, run_underlying hs]
    | some a =>
      simp only [R] at hx; obtain ⟨g, o, N, -, rfl⟩ := hx
      cases c with
      | none => simp only [R] at hy; subst hy; simp [sameS] at h; subst h; simp [Op.equalIn, run_underlying hs]
      | some c => simp [sameS] at h
  | func =>
    obtain ⟨e, e', e'', hs⟩ := hs
    cases x <;> cases y <;> simp [sameS] at h <;> simp only [R] at hx hy
    · obtain ⟨a, c, rfl, -⟩ := hx; subst hy; subst h; simp [Op.equalIn, run_underlying hs]
    · obtain ⟨a, c, rfl, -⟩ := hy; subst hx; subst h; simp [Op.equalIn, run_underlying hs]
    · subst hx hy; subst h; simp [Op.equalIn, run_underlying hs]
  | iface =>
    obtain ⟨m, hs⟩ := hs
    cases x <;> cases y <;> simp [sameS] at h <;> simp only [R] at hx hy
    · obtain ⟨a, rfl, -⟩ := hx; subst hy; subst h; simp [Op.equalIn, run_underlying hs]
    · obtain ⟨a, rfl, -⟩ := hy; subst hx; subst h; simp [Op.equalIn, run_underlying hs]
    · subst hx hy; subst h; simp [Op.equalIn, run_underlying hs]
end
section
variable {Z : Nat → Prop} {ρ : Rho} {H H' : AHeap} {w w' : World} {P : Program}
def ckFl (P : Program) (ck : TypeId → ESh → Bool) : List Field → List (Nat × Nat × ESh) → Bool
  | [], l => l.isEmpty
  | f :: fs, l => if f.name = "_" then ckFl P ck fs l else match l with
    | (off, n, sh) :: l => off == f.offset && ckSz P f.type n && ckAg P f.type sh.isParts && ck f.type sh && ckFl P ck fs l
    | [] => false
def ckIl (P : Program) (ck : TypeId → ESh → Bool) (e : TypeId) : List Nat → List (Nat × Nat × ESh) → Bool
  | [], l => l.isEmpty
  | i :: is, l => match l with
    | (off, n, sh) :: l => off == i * P.cellsOf e && ckSz P e n && ckAg P e sh.isParts && ck e sh && ckIl P ck e is l
    | [] => false
def ckE (P : Program) : Nat → TypeId → ESh → Bool
  | 0, _, _ => false
  | d + 1, t, sh => match sh with
    | .sc k => ckSK (P.underlying t) k
    | .parts l => (match P.underlying t with
      | some (.struct fs) => !P.stoodInHeld t && ckFl P (ckE P d) fs.toList l
      | some (.array n e) => (P.info? e).isSome && ckIl P (ckE P d) e (List.range n) l
      | _ => false)
    | .no => false
theorem eqD_sim : ∀ (d : Nat) (t : TypeId) (sh : ESh) (x y : AV) (X Y : Value) (b : Bool), ckE P d t sh = true → R ρ x X → R ρ y Y → eqD d sh x y = some b → ∀ m w, (Op.equalIn (d + m) t X Y).run P w = .ok b w := by
  intro d
  induction d with
  | zero => intro t sh x y X Y b hc; simp [ckE] at hc
  | succ d ih =>
    intro t sh x y X Y b hc hx hy h m w
    unfold ckE at hc
    unfold eqD at h
    cases sh with
    | sc k => rw [show d + 1 + m = (d + m) + 1 by omega]; exact sameS_sim hc hx hy h _
    | no => cases hc
    | parts l =>
      simp only at hc h
      split at h
      · rename_i xs ys
        simp only [R] at hx hy
        obtain ⟨X', rfl, hx1, hx2⟩ := hx
        obtain ⟨Y', rfl, hy1, hy2⟩ := hy
        rw [show d + 1 + m = (d + m) + 1 by omega]
        split at hc
        · rename_i fs hu
          simp only [Bool.and_eq_true, Bool.not_eq_true'] at hc
          have hfs : P.fieldsOf t = fs := by simp [Program.fieldsOf, hu]
          rw [run_equalIn_struct w (d + m) t X' Y' (by rw [hfs]; exact hu) hc.1, hfs]
          have hc2 := hc.2
          clear hc hu hfs
          generalize fs.toList = fl at *
          induction fl generalizing l w with
          | nil =>
            simp only [ckFl] at hc2
            have : l = [] := by simpa using hc2
            subst this
            simp [eqPl] at h
            subst h
            rfl
          | cons f fl ihf =>
            simp only [ckFl] at hc2
            simp only [Op.eqFields]
            split at hc2
            · rename_i hn
              rw [if_neg (by simpa using hn)]
              exact ihf w l h hc2
            · rename_i hn
              rw [if_pos (by simpa using hn)]
              split at hc2
              · rename_i l off n sh l'
                simp only [Bool.and_eq_true, beq_iff_eq] at hc2
                obtain ⟨⟨⟨⟨rfl, hs⟩, ha⟩, he⟩, hrest⟩ := hc2
                simp only [eqPl] at h
                split at h
                · rename_i x' hx'
                  split at h
                  · rename_i y' hy'
                    obtain ⟨u, p1, p2⟩ := run_part (P := P) (w := w) hs ha hx1 hx2 hx'
                    obtain ⟨v, q1, q2⟩ := run_part (P := P) (w := w) hs ha hy1 hy2 hy'
                    simp only [Sem.run_bind, p1, q1, Result.andThen_ok]
                    split at h
                    · rename_i heq
                      rw [ih _ _ _ _ _ _ _ he p2 q2 heq m w]
                      simp only [Result.andThen_ok, Bool.not_true, Bool.false_eq_true, if_false]
                      exact ihf w _ h hrest
                    · rename_i r hne heq
                      cases b with
                      | true => exact absurd h heq
                      | false =>
                        rw [ih _ _ _ _ _ _ _ he p2 q2 h m w]
                        rfl
                  · cases h
                · cases h
              · cases hc2
        · rename_i n e hu
          simp only [Bool.and_eq_true] at hc
          obtain ⟨i, hi⟩ := Option.isSome_iff_exists.1 hc.1
          rw [run_equalIn_array w (d + m) X' Y' hu hi]
          have hc2 := hc.2
          clear hc hu
          generalize List.range n = il at *
          induction il generalizing l w with
          | nil =>
            simp only [ckIl] at hc2
            have : l = [] := by simpa using hc2
            subst this
            simp [eqPl] at h
            subst h
            rfl
          | cons j il ihf =>
            simp only [ckIl] at hc2
            simp only [Op.eqItems]
            split at hc2
            · rename_i l off n sh l'
              simp only [Bool.and_eq_true, beq_iff_eq] at hc2
              obtain ⟨⟨⟨⟨rfl, hs⟩, ha⟩, he⟩, hrest⟩ := hc2
              simp only [eqPl] at h
              split at h
              · rename_i x' hx'
                split at h
                · rename_i y' hy'
                  obtain ⟨u, p1, p2⟩ := run_part (P := P) (w := w) hs ha hx1 hx2 hx'
                  obtain ⟨v, q1, q2⟩ := run_part (P := P) (w := w) hs ha hy1 hy2 hy'
                  simp only [Sem.run_bind, p1, q1, Result.andThen_ok]
                  split at h
                  · rename_i heq
                    rw [ih _ _ _ _ _ _ _ he p2 q2 heq m w]
                    simp only [Result.andThen_ok, Bool.not_true, Bool.false_eq_true, if_false]
                    exact ihf w _ h hrest
                  · rename_i r hne heq
                    cases b with
                    | true => exact absurd h heq
                    | false =>
                      rw [ih _ _ _ _ _ _ _ he p2 q2 h m w]
                      rfl
                · cases h
              · cases h
            · cases hc2
        · cases hc
      · cases h
theorem equal_sim {t : TypeId} {sh : ESh} {x y : AV} {X Y : Value} {b : Bool} (hc : ckE P 6 t sh = true) (hx : R ρ x X) (hy : R ρ y Y) (h : eqA sh x y = some b) (w : World) : (Op.equal t X Y).run P w = .ok b w :=
  eqD_sim 6 t sh x y X Y b hc hx hy h 9994 w
end
section
variable {Z : Nat → Prop} {ρ : Rho} {H H' : AHeap} {w w' : World} {P : Program}
def keySK : SK → Bool
  | .bool | .int | .str => true
  | _ => false
def keyD : Nat → ESh → Bool
  | 0, _ => false
  | d + 1, sh => match sh with
    | .sc k => keySK k
    | .parts l => l.all fun p => keyD d p.2.2
    | .no => false
theorem key_sim : ∀ (d : Nat) (t : TypeId) (sh : ESh) (x y : AV) (X : Value) (b : Bool), ckE P d t sh = true → keyD d sh = true → R ρ x X → (eqD d sh x y = some b ∨ ∃ k, sh = .sc k) → ∀ (empty : Bool) m w, b = true → (Instr.checkKey empty (d + m) t X).run P w = .ok () w := by
  intro d
  induction d with
  | zero => intro t sh x y X b hc; simp [ckE] at hc
  | succ d ih =>
    intro t sh x y X b hc hk hx h empty m w hb
    unfold ckE at hc
    unfold keyD at hk
    rw [show d + 1 + m = (d + m) + 1 by omega]
    cases sh with
    | sc k =>
      have hs := ckSK_s hc
      cases k <;> simp [keySK] at hk <;> simp only at hs
      · simp [Instr.checkKey, run_underlying hs]
      · obtain ⟨q, hs⟩ := hs; simp [Instr.checkKey, run_underlying hs]
      · simp [Instr.checkKey, run_underlying hs]
    | no => cases hc
    | parts l =>
      simp only at hc hk
      replace h := h.resolve_right (by rintro ⟨k, hk⟩; cases hk)
      unfold eqD at h
      simp only at h
      split at h
      · rename_i xs ys
        simp only [R] at hx
        obtain ⟨X', rfl, hx1, hx2⟩ := hx
        split at hc
        · rename_i fs hu
          simp only [Bool.and_eq_true, Bool.not_eq_true'] at hc
          have hc2 := hc.2
          simp only [Instr.checkKey, Sem.run_bind, run_underlying hu, Result.andThen_ok]
          rw [← Array.forIn_toList]
          clear hc hu
          generalize fs.toList = fl at *
          induction fl generalizing l w with
          | nil => rfl
          | cons f fl ihf =>
            simp only [ckFl] at hc2
            simp only [List.forIn_cons, Sem.run_bind]
            split at hc2
            · rename_i hn
              rw [if_neg (by simpa using hn)]
              simp only [Sem.run_pure, Result.andThen_ok]
              exact ihf w l hk h hc2
            · rename_i hn
              rw [if_pos (by simpa using hn)]
              split at hc2
              · rename_i l off n sh l'
                simp only [Bool.and_eq_true, beq_iff_eq] at hc2
                obtain ⟨⟨⟨⟨rfl, hs⟩, ha⟩, he⟩, hrest⟩ := hc2
                simp only [eqPl] at h
                simp only [List.all_cons, Bool.and_eq_true] at hk
                split at h
                · rename_i x' hx'
                  split at h
                  · rename_i y' hy'
                    obtain ⟨u, p1, p2⟩ := run_part (P := P) (w := w) hs ha hx1 hx2 hx'
                    simp only [Sem.run_bind, p1, Result.andThen_ok]
                    split at h
                    · rename_i heq
                      rw [ih _ _ _ _ _ _ he hk.1 p2 (.inl heq) empty m w rfl]
                      simp only [Result.andThen_ok, Sem.run_pure]
                      exact ihf w _ hk.2 h hrest
                    · rename_i r hne heq
                      rw [hb] at h
                      exact absurd h heq
                  · cases h
                · cases h
              · cases hc2
        · rename_i n e hu
          simp only [Bool.and_eq_true] at hc
          obtain ⟨i, hi⟩ := Option.isSome_iff_exists.1 hc.1
          have hc2 := hc.2
          simp only [Instr.checkKey, Sem.run_bind, run_underlying hu, Result.andThen_ok]
          simp only [Std.Legacy.Range.forIn_eq_forIn_range', Std.Legacy.Range.size, Nat.sub_zero, Nat.add_one_sub_one, Nat.div_one]
          rw [List.range_eq_range'] at hc2
          clear hc hu
          generalize List.range' 0 n = il at *
          induction il generalizing l w with
          | nil => rfl
          | cons j il ihf =>
            simp only [ckIl] at hc2
            simp only [List.forIn_cons, Sem.run_bind]
            split at hc2
            · rename_i l off n sh l'
              simp only [Bool.and_eq_true, beq_iff_eq] at hc2
              obtain ⟨⟨⟨⟨rfl, hs⟩, ha⟩, he⟩, hrest⟩ := hc2
              simp only [eqPl] at h
              simp only [List.all_cons, Bool.and_eq_true] at hk
              split at h
              · rename_i x' hx'
                split at h
                · rename_i y' hy'
                  obtain ⟨u, p1, p2⟩ := run_part (P := P) (w := w) hs ha hx1 hx2 hx'
                  simp only [Sem.run_bind, run_sizeOf w hi, p1, Result.andThen_ok]
                  split at h
                  · rename_i heq
                    rw [ih _ _ _ _ _ _ he hk.1 p2 (.inl heq) empty m w rfl]
                    simp only [Result.andThen_ok, Sem.run_pure]
                    exact ihf w _ hk.2 h hrest
                  · rename_i r hne heq
                    rw [hb] at h
                    exact absurd h heq
                · cases h
              · cases h
            · cases hc2
        · cases hc
      · cases h
end
section
variable {Z : Nat → Prop} {ρ : Rho} {H H' : AHeap} {w w' : World} {P : Program}
theorem RE.len : ∀ {es : List (AV × AV × Nat)} {E : List MapEntry}, RE ρ es E → E.length = es.length
  | [], E, h => by simp only [RE] at h; simp [h]
  | (k, v, b) :: es, E, h => by
    simp only [RE] at h
    obtain ⟨e, E', rfl, -, -, -, h5⟩ := h
    simp [RE.len h5]
theorem RE.get : ∀ {es : List (AV × AV × Nat)} {E : List MapEntry} {i : Nat} {k v : AV} {b : Nat}, RE ρ es E → es[i]? = some (k, v, b) → ∃ e, E[i]? = some e ∧ R ρ k e.key ∧ R ρ v e.val ∧ e.born = b
  | [], E, i, k, v, b, h, hi => by simp at hi
  | (k', v', b') :: es, E, 0, k, v, b, h, hi => by
    simp only [RE] at h
    obtain ⟨e, E', rfl, h2, h3, h4, h5⟩ := h
    simp at hi
    obtain ⟨rfl, rfl, rfl⟩ := hi
    exact ⟨e, rfl, h2, h3, h4⟩
  | (k', v', b') :: es, E, i + 1, k, v, b, h, hi => by
    simp only [RE] at h
    obtain ⟨e, E', rfl, h2, h3, h4, h5⟩ := h
    obtain ⟨e', q1, q2⟩ := RE.get h5 (i := i) (by simpa using hi)
    exact ⟨e', by simpa using q1, q2⟩
theorem RE.of_get : ∀ {es : List (AV × AV × Nat)} {E : List MapEntry}, E.length = es.length → (∀ (i : Nat) k v b, es[i]? = some (k, v, b) → ∃ e, E[i]? = some e ∧ R ρ k e.key ∧ R ρ v e.val ∧ e.born = b) → RE ρ es E
  | [], E, h, _ => by simp only [RE]; simpa using h
  | (k, v, b) :: es, [], h, _ => by simp at h
  | (k, v, b) :: es, e :: E, h, hg => by
    simp only [RE]
    obtain ⟨e', q1, q2, q3, q4⟩ := hg 0 k v b rfl
    simp at q1; subst q1
    exact ⟨e, E, rfl, q2, q3, q4, RE.of_get (by simpa using h) fun i k v b hi => by obtain ⟨e', q1, q2⟩ := hg (i + 1) k v b (by simpa using hi); exact ⟨e', by simpa using q1, q2⟩⟩
theorem RE.set {es : List (AV × AV × Nat)} {E : List MapEntry} (h : RE ρ es E) {i : Nat} {k v : AV} {b : Nat} {e : MapEntry} (hk : R ρ k e.key) (hv : R ρ v e.val) (hb : e.born = b) : RE ρ (es.set i (k, v, b)) (E.set i e) := by
  refine RE.of_get (by simp [h.len]) fun j k' v' b' hj => ?_
  rw [List.getElem?_set] at hj ⊢
  by_cases hij : i = j
  · subst hij
    rw [if_pos rfl] at hj ⊢
    split at hj
    · rename_i hl
      rw [if_pos (by rw [h.len]; exact hl)]
      simp at hj
      obtain ⟨rfl, rfl, rfl⟩ := hj
      exact ⟨e, rfl, hk, hv, hb⟩
    · cases hj
  · rw [if_neg hij] at hj ⊢
    exact h.get hj
theorem RE.push {es : List (AV × AV × Nat)} {E : List MapEntry} (h : RE ρ es E) {k v : AV} {b : Nat} {e : MapEntry} (hk : R ρ k e.key) (hv : R ρ v e.val) (hb : e.born = b) : RE ρ (es ++ [(k, v, b)]) (E ++ [e]) := by
  refine RE.of_get (by simp [h.len]) fun j k' v' b' hj => ?_
  by_cases hl : j < es.length
  · rw [List.getElem?_append_left hl] at hj
    rw [List.getElem?_append_left (by rw [h.len]; exact hl)]
    exact h.get hj
  · rw [List.getElem?_append_right (by omega)] at hj
    rw [List.getElem?_append_right (by rw [h.len]; omega), h.len]
    cases hx : j - es.length with
    | zero =>
      rw [hx] at hj
      simp at hj
      obtain ⟨rfl, rfl, rfl⟩ := hj
      exact ⟨e, rfl, hk, hv, hb⟩
    | succ n => rw [hx] at hj; simp at hj
theorem RE.erase : ∀ {es : List (AV × AV × Nat)} {E : List MapEntry} (i : Nat), RE ρ es E → RE ρ (es.eraseIdx i) (E.eraseIdx i)
  | [], E, i, h => by simp only [RE] at h; subst h; simp [RE]
  | (k, v, b) :: es, E, 0, h => by
    simp only [RE] at h
    obtain ⟨e, E', rfl, -, -, -, h5⟩ := h
    simpa using h5
  | (k, v, b) :: es, E, i + 1, h => by
    simp only [RE] at h
    obtain ⟨e, E', rfl, h2, h3, h4, h5⟩ := h
    simp only [List.eraseIdx_cons_succ, RE]
    exact ⟨e, _, rfl, h2, h3, h4, RE.erase i h5⟩
theorem run_getMap {g : Nat} {E : Array MapEntry} {k : Nat} (h : w.heap[g]? = some (.map E k)) : (getObj g).run P w = .ok (.map E k) w := by
  simp [getObj, Sem.run, h]
theorem run_setMap {g : Nat} {E : Array MapEntry} {k : Nat} (h : w.heap[g]? = some (.map E k)) (x : Obj) : ∃ w', (setObj g x).run P w = .ok () w' ∧ Turn w w' g x := by
  have hlt := (Array.getElem?_eq_some_iff.1 h).1
  refine ⟨{ w with heap := w.heap.setIfInBounds g x }, by simp [setObj, Sem.run, h], rfl, rfl, rfl, by simp, by simp [hlt], fun k hk => ?_⟩
  simp [Array.getElem?_setIfInBounds_ne (Ne.symm hk)]
theorem bits1_sim {a b : AV} {X Y : Value} (h : bits1 a b = true) (hx : R ρ a X) (hy : R ρ b Y) (n : Nat) : Instr.sameBits n X Y = true := by
  unfold bits1 at h
  split at h
  · simp only [R] at hx hy; subst hx hy; simpa [Instr.sameBits] using h
  · simp only [R] at hx hy; subst hx hy; simp at h; obtain ⟨rfl, rfl⟩ := h; simp [Instr.sameBits]
  · simp only [R] at hx hy
    obtain ⟨c, rfl, rfl⟩ := hx
    obtain ⟨d, rfl, rfl⟩ := hy
    rw [strs_eq] at h
    simpa [Instr.sameBits] using h
  · cases h
theorem bitsL_sim (n : Nat) : ∀ {a b : List AV} {X Y : List Value}, bitsL a b = true → RL ρ a X → RL ρ b Y → X.length = Y.length ∧ ((X.zip Y).all fun (x, y) => Instr.sameBits n x y) = true
  | [], [], X, Y, _, hx, hy => by simp only [RL] at hx hy; subst hx hy; simp
  | a :: as, b :: bs, X, Y, h, hx, hy => by
    simp only [bitsL, Bool.and_eq_true] at h
    simp only [RL] at hx hy
    obtain ⟨x, xs, rfl, x1, x2⟩ := hx
    obtain ⟨y, ys, rfl, y1, y2⟩ := hy
    obtain ⟨q1, q2⟩ := bitsL_sim n h.2 x2 y2
    exact ⟨by simp [q1], by simp only [List.zip_cons_cons, List.all_cons, bits1_sim h.1 x1 y1 n, Bool.true_and]; exact q2⟩
  | [], _ :: _, _, _, h, _, _ => by simp [bitsL] at h
  | _ :: _, [], _, _, h, _, _ => by simp [bitsL] at h
theorem bitsA_sim {a b : AV} {X Y : Value} (h : bitsA a b = true) (hx : R ρ a X) (hy : R ρ b Y) : Instr.sameBits 10000 X Y = true := by
  unfold bitsA at h
  split at h
  · simp only [R] at hx hy
    obtain ⟨X', rfl, x1, -⟩ := hx
    obtain ⟨Y', rfl, y1, -⟩ := hy
    obtain ⟨q1, q2⟩ := bitsL_sim 9999 h x1 y1
    simp only [Instr.sameBits, Bool.and_eq_true, beq_iff_eq]
    exact ⟨by simpa using q1, q2⟩
  · exact bits1_sim h hx hy _
theorem findNow_asking {t : TypeId} {d : TypeDesc} (hu : P.underlying t = some d) {K : Value} : ∀ (E : List MapEntry) (i : Nat) (r : Option (Nat × Value)), Instr.findNow d K E i = some r → (Instr.findAsking t K E i).run P w = .ok r w
  | [], i, r, h => by simp [Instr.findNow] at h; subst h; rfl
  | e :: E, i, r, h => by
    simp only [Instr.findNow] at h
    have key : ∀ b, Instr.sameNow d K e.key = some b → (Op.equal t K e.key).run P w = .ok b w := by
      intro b hb
      generalize e.key = kv at hb ⊢
      unfold Instr.sameNow at hb
      split at hb
      · split at hb
        · rename_i hk; subst hk
          cases hb
          exact run_equalIn_int w 9999 t _ _ _ _ hu
        · cases hb
      · cases hb
        rw [beq_toListBytes]
        exact run_equalIn_string w 9999 t _ _ hu
      · cases hb
        exact run_equalIn_bool' w 9999 t _ _ hu
      · cases hb
    split at h
    · rename_i heq
      cases h
      simp only [Instr.findAsking, Sem.run_bind, key _ heq, Result.andThen_ok, if_true, Sem.run_pure]
    · rename_i heq
      simp only [Instr.findAsking, Sem.run_bind, key _ heq, Result.andThen_ok, Bool.false_eq_true, if_false]
      exact findNow_asking hu E (i + 1) r h
    · cases h
theorem asking_sim {t : TypeId} {sh : ESh} (hc : ckE P 6 t sh = true) {k : AV} {K : Value} (hk : R ρ k K) : ∀ {es : List (AV × AV × Nat)} {E : List MapEntry} {i : Nat} {r : Option (Nat × AV × Nat)}, RE ρ es E → findA sh k es i = some r →
    ((r = none ∧ (Instr.findAsking t K E i).run P w = .ok none w) ∨ ∃ j v b k' e, r = some (i + j, v, b) ∧ es[j]? = some (k', v, b) ∧ E[j]? = some e ∧ R ρ v e.val ∧ e.born = b ∧ Instr.sameBits 10000 e.key K = true ∧ (∃ c, eqA sh k c = some true) ∧ (Instr.findAsking t K E i).run P w = .ok (some (i + j, e.val)) w) ∧ (r = none → fitA sh k = true)
  | [], E, i, r, he, h => by
    simp only [RE] at he; subst he
    simp only [findA] at h
    cases hf : fitA sh k
    · rw [hf] at h; cases h
    · rw [hf] at h; cases h
      exact ⟨.inl ⟨rfl, rfl⟩, fun _ => rfl⟩
  | (k', v, b) :: es, E, i, r, he, h => by
    simp only [RE] at he
    obtain ⟨e, E', rfl, h2, h3, h4, h5⟩ := he
    simp only [findA] at h
    split at h
    · rename_i heq
      cases hb : bitsA k' k
      · rw [hb] at h; cases h
      · rw [hb] at h; cases h
        refine ⟨.inr ⟨0, v, b, k', e, rfl, rfl, rfl, h3, h4, bitsA_sim hb h2 hk, ⟨_, heq⟩, ?_⟩, fun h => by cases h⟩
        simp only [Instr.findAsking, Sem.run_bind, equal_sim hc hk h2 heq, Result.andThen_ok, if_true, Sem.run_pure]
        rfl
    · rename_i heq
      obtain ⟨q1, q2⟩ := asking_sim hc hk h5 h
      have hstep : (Instr.findAsking t K (e :: E') i).run P w = (Instr.findAsking t K E' (i + 1)).run P w := by
        simp only [Instr.findAsking, Sem.run_bind, equal_sim hc hk h2 heq, Result.andThen_ok, Bool.false_eq_true, if_false]
      refine ⟨q1.imp (fun q => ⟨q.1, by rw [hstep]; exact q.2⟩) ?_, q2⟩
      rintro ⟨j, v', b', k2, e2, e1, e3, e4, e5, e6, e7, e8, e9⟩
      exact ⟨j + 1, v', b', k2, e2, by rw [e1]; congr 2; omega, by simpa using e3, by simpa using e4, e5, e6, e7, e8, by rw [hstep, e9]; congr 3; omega⟩
    · cases h
theorem find_sim {t : TypeId} {sh : ESh} (hc : ckE P 6 t sh = true) {k : AV} {K : Value} (hk : R ρ k K) {es : List (AV × AV × Nat)} {E : List MapEntry} {r : Option (Nat × AV × Nat)} (he : RE ρ es E) (h : findA sh k es 0 = some r) (hu : (P.underlying t).isSome = true) :
    ((r = none ∧ (Instr.findKey t K E).run P w = .ok none w) ∨ ∃ j v b k' e, r = some (j, v, b) ∧ es[j]? = some (k', v, b) ∧ E[j]? = some e ∧ R ρ v e.val ∧ e.born = b ∧ Instr.sameBits 10000 e.key K = true ∧ (∃ c, eqA sh k c = some true) ∧ (Instr.findKey t K E).run P w = .ok (some (j, e.val)) w) ∧ (r = none → fitA sh k = true) := by
  obtain ⟨d, hu⟩ := Option.isSome_iff_exists.1 hu
  have hkey : (Instr.findKey t K E).run P w = (Instr.findAsking t K E 0).run P w := by
    simp only [Instr.findKey, Sem.run_bind, run_underlying hu, Result.andThen_ok]
    split
    · rename_i r hr
      rw [findNow_asking hu E 0 r hr]
      rfl
    · rfl
  obtain ⟨q1, q2⟩ := asking_sim (w := w) hc hk he h
  refine ⟨q1.imp (fun q => ⟨q.1, by rw [hkey]; exact q.2⟩) ?_, q2⟩
  rintro ⟨j, v', b', k2, e2, e1, e3⟩
  simp only [Nat.zero_add] at e1 e3
  exact ⟨j, v', b', k2, e2, e1, by rw [hkey]; exact e3⟩
end
end Go.Proofs.YtojeldemfccilaaGreatDoor.AA
