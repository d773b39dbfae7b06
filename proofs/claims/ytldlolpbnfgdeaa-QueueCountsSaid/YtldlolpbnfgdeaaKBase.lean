/- Words for memory: what a call may turn, and rows that are owned. -/
import Derived.Test.YtldlolpbnfgdeaaKReg
import Derived.WalkKit
import Derived.WalkSpells
import Derived.Laws.CopyOwn
import Derived.Lib.Hide
import Derived.Deep.QuietTactic
import Derived.BigQuiet
import Derived.Deep.OwnRows
import Derived.Deep.Draws
namespace Go.Proofs.Ytldlolpbnfgdeaa
open Go Go.RowKit

/-- Of what was there, the blocks of F alone may have turned. -/
structure Mod (F : List Nat) (w w' : World) : Prop where
  os : w'.os = w.os
  tape : w'.tape = w.tape
  output : w'.output = w.output
  size : w.heap.size ≤ w'.heap.size
  block : ∀ k, k < w.heap.size → k ∉ F → w'.heap[k]? = w.heap[k]?

theorem Mod.refl (F : List Nat) (w : World) : Mod F w w := ⟨rfl, rfl, rfl, Nat.le_refl _, fun _ _ _ => rfl⟩
theorem Mod.trans {F G : List Nat} {w w1 w2 : World} (h : Mod F w w1) (k : Mod G w1 w2) (hg : ∀ b ∈ G, b ∈ F ∨ w.heap.size ≤ b) : Mod F w w2 :=
  ⟨k.os.trans h.os, k.tape.trans h.tape, k.output.trans h.output, Nat.le_trans h.size k.size, fun b hb hF =>
    (k.block b (Nat.lt_of_lt_of_le hb h.size) (fun hG => (hg b hG).elim hF (fun h => by omega))).trans (h.block b hb hF)⟩
theorem Mod.mono {F G : List Nat} {w w' : World} (h : Mod F w w') (hg : ∀ b ∈ F, b ∈ G ∨ w.heap.size ≤ b) : Mod G w w' :=
  ⟨h.os, h.tape, h.output, h.size, fun b hb hG => h.block b hb (fun hF => (hg b hF).elim hG (fun h => by omega))⟩
theorem Mod.drew {F : List Nat} {w w' : World} (h : Mod F w w') : Mod F w w'.drew := ⟨h.os, h.tape, h.output, h.size, h.block⟩
theorem Mod.of_below {w w' : World} (h : Below w.heap.size w w') : Mod [] w w' := ⟨h.os, h.tape, h.output, h.size, fun b hb _ => h.block b hb⟩
theorem Mod.below {w w' : World} (h : Mod [] w w') : Below w.heap.size w w' := ⟨h.os, h.tape, h.output, h.size, fun b hb => h.block b hb (by simp)⟩
theorem Mod.step {F : List Nat} {w w' : World} (o : Obj) (h : Mod F w w') : Mod F w (w'.alloc o) :=
  ⟨h.os, h.tape, h.output, Nat.le_trans h.size (by simp), fun b hb hF => (Below.heap_alloc _ _ _ (Nat.lt_of_lt_of_le hb h.size)).trans (h.block b hb hF)⟩
theorem Mod.set {F : List Nat} {w w' : World} (h : Mod F w w') {a : Addr} (v : Value) (ha : a.block ∈ F ∨ w.heap.size ≤ a.block) : Mod F w (w'.setCell a v) :=
  ⟨h.os, h.tape, h.output, by simpa [World.setCell] using h.size, fun b hb hF => (Below.heap_setCell _ _ _ _ (fun e => by subst e; exact ha.elim hF (fun h => by omega))).trans (h.block b hb hF)⟩
theorem Mod.grown {F : List Nat} {w w1 w2 : World} {row : Option Nat} (h : Mod F w w1) (hg : w1.grownBy w2 row) (hr : ∀ k, row = some k → k ∈ F ∨ w.heap.size ≤ k) : Mod F w w2 :=
  ⟨hg.os.trans h.os, hg.tape.trans h.tape, hg.output.trans h.output, Nat.le_trans h.size hg.size, fun b hb hF =>
    (hg.block b (Nat.lt_of_lt_of_le hb h.size) (fun e => (hr b e.symm).elim hF (fun h => by omega))).trans (h.block b hb hF)⟩
theorem Mod.cell {F : List Nat} {w w' : World} (h : Mod F w w') {b o : Nat} (hb : b < w.heap.size) (hF : b ∉ F) : w'.cell? ⟨b, o, none⟩ = w.cell? ⟨b, o, none⟩ :=
  World.cell?_of_block (w := w) (h.block b hb hF)
theorem Mod.cells {F : List Nat} {w w' : World} (h : Mod F w w') : ∀ b o, b < w.heap.size → b ∉ F → w'.cell? ⟨b, o, none⟩ = w.cell? ⟨b, o, none⟩ := fun _ _ hb hF => h.cell hb hF

theorem lt_of_blk {w : World} {b : Nat} {o : Obj} (h : w.heap[b]? = some o) : b < w.heap.size := (Array.getElem?_eq_some_iff.1 h).1
theorem cell_of_blk {w : World} {b : Nat} {cs : Array Value} {t : TypeId} {f : Nat × Nat} (h : w.heap[b]? = some (.cells cs t f)) (i : Nat) : w.cell? ⟨b, i, none⟩ = cs[i]? := cell_of_row w b i cs t f h
theorem frozen_of_blk {w : World} {b : Nat} {cs : Array Value} {t : TypeId} (h : w.heap[b]? = some (.cells cs t (0, 0))) (i : Nat) : w.frozen? ⟨b, i, none⟩ = false := by
  simp [World.frozen?, h]
theorem blk_set {w : World} {b : Nat} {cs : Array Value} {t : TypeId} {f : Nat × Nat} (h : w.heap[b]? = some (.cells cs t f)) (i : Nat) (u : Value) :
    (w.setCell ⟨b, i, none⟩ u).heap[b]? = some (.cells (cs.setIfInBounds i u) t f) := by
  simp [World.setCell, Array.getElem?_modify, h]
theorem blk_far {w : World} {b : Nat} {o : Obj} (h : w.heap[b]? = some o) {p : Addr} (hp : b ≠ p.block) (u : Value) : (w.setCell p u).heap[b]? = some o := (Below.heap_setCell w p u b hp).trans h
theorem blk_alloc {w : World} {b : Nat} {o : Obj} (h : w.heap[b]? = some o) (o' : Obj) : (w.alloc o').heap[b]? = some o := (Below.heap_alloc w o' b (lt_of_blk h)).trans h
theorem blk_mod {F : List Nat} {w w' : World} {b : Nat} {o : Obj} (h : w.heap[b]? = some o) (hm : Mod F w w') (hb : b ∉ F) : w'.heap[b]? = some o := (hm.block b (lt_of_blk h) hb).trans h

/-! Owned rows. -/
abbrev Own (w : World) (e size : Nat) (v : Value) (n : Nat) (xs : List Value) : Prop := w.ownsRow 0 e size v n xs
def ob (v : Value) : List Nat := v.ownBlock.toList

theorem Own.frame {w w' : World} {e size n : Nat} {v : Value} {xs : List Value} (h : Own w e size v n xs) (hf : ∀ b ∈ ob v, w'.heap[b]? = w.heap[b]?) : Own w' e size v n xs := by
  refine ⟨h.1, ?_⟩
  rcases h.2 with hn | ⟨g, cap, cur, rfl, hb, hgg, rest⟩
  · exact .inl hn
  · refine .inr ⟨g, cap, cur, rfl, hb, ?_, rest⟩
    rw [hf g (by simp [ob, Value.ownBlock])]
    exact hgg
theorem Own.mod {F : List Nat} {w w' : World} {e size n : Nat} {v : Value} {xs : List Value} (h : Own w e size v n xs) (hm : Mod F w w') (hf : ∀ b ∈ ob v, b ∉ F) : Own w' e size v n xs :=
  h.frame fun b hb => hm.block b (h.lt b (by simpa [ob] using hb)).2 (hf b hb)
theorem Own.lt' {w : World} {e size n : Nat} {v : Value} {xs : List Value} (h : Own w e size v n xs) : ∀ b ∈ ob v, b < w.heap.size := fun b hb => (h.lt b (by simpa [ob] using hb)).2
theorem Own.nil (w : World) (e size : Nat) : Own w e size (.slice none 0 0) 0 [] := World.ownsRow_nil w 0 e size
/-- Its form, where it is not empty. -/
theorem Own.form {w : World} {e size n : Nat} {v : Value} {xs : List Value} (h : Own w e size v n xs) (hn : 0 < n) :
    ∃ g cap cur, v = .slice (some ⟨g, 0, none⟩) n cap ∧ w.heap[g]? = some (.cells cur e (0, 0)) ∧ n ≤ cap ∧ cap ≤ maxLen ∧ cur.size = cap * size ∧ cur.toList.take (n * size) = xs := by
  rcases h.2 with ⟨_, h0⟩ | ⟨g, cap, cur, hv, _, rest⟩
  · omega
  · exact ⟨g, cap, cur, hv, rest⟩
/-- Its form as a value. -/
theorem Own.val {w : World} {e size n : Nat} {v : Value} {xs : List Value} (h : Own w e size v n xs) : ∃ a cap, v = .slice a n cap ∧ n ≤ cap ∧ (∀ g, a = some g → g.off = 0 ∧ g.spot = none) := by
  rcases h.2 with ⟨rfl, rfl⟩ | ⟨g, cap, cur, rfl, _, _, hc, _⟩
  · exact ⟨none, 0, rfl, Nat.le_refl _, fun _ h => by cases h⟩
  · exact ⟨_, cap, rfl, hc, fun _ h => by cases h; exact ⟨rfl, rfl⟩⟩
theorem take_get {α : Type} {l xs : List α} {n : Nat} (h : l.take n = xs) {i : Nat} (hi : i < n) (u : α) (hu : xs[i]? = some u) : l[i]? = some u := by
  subst h
  rw [List.getElem?_take] at hu
  rw [if_pos hi] at hu
  exact hu

theorem append_where {P : Program} (w : World) {t ty e : TypeId} {i : TypeInfo} {z : Value} {size bytes : Nat} (ht : P.underlying t = some (.slice e)) (hi : P.info? e = some i) (hz : i.zero = some z)
    (hsize : i.size = size) (hby : i.bytes = bytes) {v : Value} {n : Nat} {xs : List Value} (hown : Own w e size v n xs)
    {a : Addr} {m c : Nat} {news : List Value} (hl : news.length = m * size) (hnews : ∀ j u, news[j]? = some u → w.cell? (a.add j) = some u) (h1 : ∀ u ∈ news, u.oneCell' = true)
    (h63 : n + m ≤ maxLen) (hbytes : (n + m) * bytes ≤ 140737488355328) {v' : Value} {w' : World}
    (hr : (Builtin.append_ #[t, t] ty #[v, .slice (some a) m c]).run P w = .ok v' w') : ∀ b ∈ ob v', b ∈ ob v ∨ b = w.heap.size := by
  subst hsize hby
  have hsmall : n + m ≤ 9223372036854775807 := by simp only [maxLen] at h63; omega
  rcases hown.2 with ⟨rfl, rfl⟩ | ⟨g, cap, cur, rfl, -, hg, hnc, hcm, hcs, htake⟩
  · by_cases hm : m = 0
    · subst hm
      simp [Builtin.append_, run_underlying ht, sizeOf, typeInfo, hi, Builtin.lenOf, Builtin.firstCells, loadCells, loadCellsFrom] at hr
      intro b hb
      rw [← hr.1] at hb
      exact .inl hb
    · have h2 := run_append_nil (P := P) w t ty e i z ht hi hz a m c news hl hnews (by omega) (by omega) (by have hb := hbytes; simp only [Nat.zero_add] at hb; omega)
      rw [h2] at hr
      cases hr
      intro b hb
      simp [ob, Value.ownBlock] at hb
      exact .inr hb
  · by_cases hroom : n + m ≤ cap
    · have hfit : n * i.size + news.length ≤ cur.size := by rw [hl, hcs, ← Nat.add_mul]; exact Nat.mul_le_mul_right _ hroom
      rw [run_append_room (P := P) w t ty e i ht hi g n cap cur hg a m c news hl hnews h1 hroom hfit] at hr
      cases hr
      intro b hb
      exact .inl hb
    · have holds : ∀ j u, xs[j]? = some u → w.cell? ((⟨g, 0, none⟩ : Addr).add j) = some u := hown.cells (g := g) rfl
      rw [run_append_grow (P := P) w t ty e i z ht hi hz ⟨g, 0, none⟩ n cap xs hown.1 holds a m c news hl hnews (by omega) (by omega) (growslice_fits (by omega) hbytes)] at hr
      cases hr
      intro b hb
      simp [ob, Value.ownBlock] at hb
      exact .inr hb

/-- 'append' onto an owned row, and where the row lies behind it. -/
theorem wpList_app {P : Program} {w : World} {ops : Array Oper} {rest : List Oper} {o : Oper} {a : Act} {Q : Exit → Act → World → Prop} (hgd : o.guard = none) (s x : Operand) (t : TypeId)
    (ho : o.op = .call { callee := .builtin .append, args := #[s, x], argTypes := #[t, t] })
    (e : TypeId) (z : Value) (size bytes : Nat) (ht : P.underlying t = some (.slice e)) (hinfo : (P.info? e).map (fun i => (i.zero, i.size, i.bytes)) = some (some z, size, bytes)) (hzs : z.cells.size = size) (hsz : 0 < size)
    (v : Value) (n : Nat) (xs : List Value) (hs : a.eval s = v) (hown : Own w e size v n xs)
    (ad : Addr) (m c : Nat) (news : List Value) (hx : a.eval x = .slice (some ad) m c) (hl : news.length = m * size) (hnews : ∀ j u, news[j]? = some u → w.cell? (ad.add j) = some u) (h1 : ∀ u ∈ news, u.oneCell' = true)
    (h63 : n + m ≤ maxLen) (hbytes : (n + m) * bytes ≤ 140737488355328)
    (h : ∀ v' w', Own w' e size v' (n + m) (xs ++ news) → Mod (ob v) w w' → (∀ b ∈ ob v', b ∈ ob v ∨ b = w.heap.size) → wpList P ops Q rest (a.put o.dst v') w') : wpList P ops Q (o :: rest) a w := by
  obtain ⟨i, hi, hz, hsize, hby⟩ := info_parts hinfo
  refine wpList_plain hgd fun K hK => ?_
  obtain ⟨v', w', hr, h2, h3, h4⟩ := run_append_own (P := P) w 0 t o.type e i z size bytes ht hi hz hsize hby hzs hsz v n xs hown ad m c news hl hnews h1 h63 hbytes (Nat.zero_le _)
  have hw := append_where w ht hi hz hsize hby hown hl hnews h1 h63 hbytes hr
  unfold Oper.wp execOp
  simp only [ho, resolve, invoke, builtin, Sem.run_bind, Sem.run_pure, Result.andThen_ok, List.map_toArray, List.map_cons, List.map_nil, hs, hx, hr]
  exact hK _ _ (h v' w' h2 ((Mod.refl _ _).grown h3 fun k hk => .inl (by simp [ob, hk])) hw)

theorem add_zero_off (b j : Nat) : (⟨b, 0, none⟩ : Addr).add j = ⟨b, j, none⟩ := by unfold Addr.add; split <;> simp_all
theorem add_off (b o j : Nat) : (⟨b, o, none⟩ : Addr).add j = ⟨b, o + j, none⟩ := by unfold Addr.add; split <;> simp_all

/-- 'append(s, x)' of one value (cells 'news') that was boxed just ahead. -/
theorem wpList_app1 {P : Program} {w : World} {ops : Array Oper} {rest : List Oper} {o : Oper} {a : Act} {Q : Exit → Act → World → Prop} (hgd : o.guard = none) (s x : Operand) (t : TypeId)
    (ho : o.op = .call { callee := .builtin .append, args := #[s, x], argTypes := #[t, t] })
    (e : TypeId) (z : Value) (size bytes : Nat) (ht : P.underlying t = some (.slice e)) (hinfo : (P.info? e).map (fun i => (i.zero, i.size, i.bytes)) = some (some z, size, bytes)) (hzs : z.cells.size = size) (hsz : 0 < size)
    (v : Value) (n : Nat) (xs : List Value) (news : List Value) (hs : a.eval s = v) (hown : Own w e size v n xs) (c : Nat)
    (hx : a.eval x = .slice (some ⟨w.heap.size, 0, none⟩) 1 c) (hl : news.length = size) (h1 : news.all (fun u => u.oneCell') = true)
    (h63 : n + 1 ≤ maxLen) (hbytes : (n + 1) * bytes ≤ 140737488355328)
    (h : ∀ v' w', Own w' e size v' (n + 1) (xs ++ news) → Mod (ob v) w w' → (∀ b ∈ ob v', b ∈ ob v ∨ w.heap.size ≤ b) → wpList P ops Q rest (a.put o.dst v') w') : wpList P ops Q (o :: rest) a (w.alloc (.cells news.toArray e)) := by
  refine wpList_app hgd s x t ho e z size bytes ht hinfo hzs hsz v n xs hs (hown.alloc _) ⟨w.heap.size, 0, none⟩ 1 c news hx (by rw [hl, Nat.one_mul]) (fun j u hu => ?_) (fun u hu => List.all_eq_true.1 h1 u hu) h63 hbytes (fun v' w' h2 h3 h4 => ?_)
  · rw [add_zero_off, cell_of_blk (heap_alloc_new w _)]
    simpa using hu
  · refine h v' w' h2 (((Mod.refl _ _).step _).trans h3 (fun b hb => .inl hb)) (fun b hb => (h4 b hb).imp (fun h => h) (fun heq => ?_))
    have : (w.alloc (.cells news.toArray e)).heap.size = w.heap.size + 1 := by simp
    omega

theorem ob_slice (a : Option Addr) (n c n' c' : Nat) : ob (.slice a n c) = ob (.slice a n' c') := by cases a <;> rfl
theorem madeCells_one (z : Value) (n : Nat) : madeCells #[z] n = (List.replicate n z).toArray := by
  apply Array.toList_inj.1
  rw [toList_madeCells_one]

/-- A slice value that reads as cells (it may be anybody's). -/
def Rd (w : World) (sz n : Nat) (v : Value) (cells : List Value) : Prop :=
  cells.length = n * sz ∧ ∃ a cap, v = .slice a n cap ∧ n ≤ cap ∧ (0 < n → ∃ b off, a = some ⟨b, off, none⟩ ∧ b < w.heap.size ∧ ∀ j u, cells[j]? = some u → w.cell? ⟨b, off + j, none⟩ = some u)
theorem Rd.val {w : World} {sz n : Nat} {v : Value} {cells : List Value} (h : Rd w sz n v cells) : ∃ a cap, v = .slice a n cap ∧ n ≤ cap := by
  obtain ⟨-, a, cap, hv, hc, -⟩ := h
  exact ⟨a, cap, hv, hc⟩
theorem Rd.frame {w w' : World} {sz n : Nat} {v : Value} {cells : List Value} (h : Rd w sz n v cells) (hs : w.heap.size ≤ w'.heap.size) (hf : ∀ b ∈ ob v, b < w.heap.size → w'.heap[b]? = w.heap[b]?) : Rd w' sz n v cells := by
  obtain ⟨h1, a, cap, rfl, hc, h2⟩ := h
  refine ⟨h1, a, cap, rfl, hc, fun hn => ?_⟩
  obtain ⟨b, off, rfl, hb, hcell⟩ := h2 hn
  exact ⟨b, off, rfl, Nat.lt_of_lt_of_le hb hs, fun j u hu => (World.cell?_of_block (w := w) (hf b (by simp [ob, Value.ownBlock]) hb)).trans (hcell j u hu)⟩
theorem Rd.mod {w w' : World} {sz n : Nat} {v : Value} {cells : List Value} {F : List Nat} (h : Rd w sz n v cells) (hm : Mod F w w') (hf : ∀ b ∈ ob v, b < w.heap.size → b ∉ F) : Rd w' sz n v cells :=
  h.frame hm.size fun b hb hl => hm.block b hl (hf b hb hl)
theorem Rd.mod0 {w w' : World} {sz n : Nat} {v : Value} {cells : List Value} (h : Rd w sz n v cells) (hm : Mod [] w w') : Rd w' sz n v cells := h.mod hm (by simp)
theorem Own.rd {w : World} {e sz n : Nat} {v : Value} {xs : List Value} (h : Own w e sz v n xs) : Rd w sz n v xs := by
  obtain ⟨a, cap, hv, hc, ha⟩ := h.val
  refine ⟨h.1, a, cap, hv, hc, fun hn => ?_⟩
  obtain ⟨g, cap', cur, hv', hg, hc1, hc2, hcs, htk⟩ := h.form hn
  rw [hv] at hv'
  cases hv'
  refine ⟨g, 0, rfl, lt_of_blk hg, fun j u hu => ?_⟩
  rw [cell_of_blk hg, Nat.zero_add]
  have hj : j < n * sz := by have := (List.getElem?_eq_some_iff.1 hu).1; rw [h.1] at this; exact this
  have := take_get htk hj u hu
  simpa using this
/-- One element of one cell. -/
theorem Rd.at1 {w : World} {n cap : Nat} {a : Option Addr} {cells : List Value} (h : Rd w 1 n (.slice a n cap) cells) {k : Nat} (hk : k < n) : ∃ b off u, a = some ⟨b, off, none⟩ ∧ b < w.heap.size ∧ cells[k]? = some u ∧ w.cell? ⟨b, off + k, none⟩ = some u := by
  obtain ⟨h1, a', cap', hv, hc, h2⟩ := h
  cases hv
  obtain ⟨b, off, rfl, hb, hcell⟩ := h2 (by omega)
  have hl : k < cells.length := by omega
  exact ⟨b, off, cells[k], rfl, hb, List.getElem?_eq_getElem hl, hcell k _ (List.getElem?_eq_getElem hl)⟩
def i64v (n : Int) : Value := .int .i64 n

theorem u32_num (n : Nat) : (Value.int .u32 (n : Int)) = Value.int .u32 (n : Int) := rfl
end Go.Proofs.Ytldlolpbnfgdeaa
