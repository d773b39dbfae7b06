/- The queue: none that is ready is more urgent than who runs. -/
import Derived.Test.YtldlolpbnfgdeaaKQueG
set_option linter.unusedSimpArgs false
set_option linter.unusedVariables false
namespace Go.Proofs.Ytldlolpbnfgdeaa.AA
open Go Go.RowKit
set_option maxRecDepth 100000
attribute [local irreducible] Tr.set
set_option maxHeartbeats 4000000
/-- A slice that grows and is cut at its beginning: x its block. -/
def Sw (H : AHeap) (v : AV) (n : Nat) (cs : List AV) (x : Nat) : Prop := ∃ i cl, v = .slice (some (x, i)) 1 n cl ∧ cs.length = n ∧ Rd H x i cs ∧ (cl = false → ∃ c par, H.get x = .cells c (i + n) true par)
section
variable {H : AHeap} {K : Nat → Prop} {q n : Nat} {s : QS}
theorem Sw.keep {H' : AHeap} {v : AV} {n : Nat} {cs : List AV} {x : Nat} (h : Sw H v n cs x) (hl : H.next ≤ H'.next) (hg : H'.get x = H.get x) : Sw H' v n cs x := by
  obtain ⟨i, cl, rfl, h1, h2, h3⟩ := h
  exact ⟨i, cl, rfl, h1, h2.keep hl hg, fun e => by rw [hg]; exact h3 e⟩
theorem Sw.push {v : AV} {n : Nat} {cs : List AV} {x : Nat} (h : Sw H v n cs x) (u : AV) (hm : n < 1000) : ∃ H2, appendF (H.newRow [u]) 1 8 false v (.slice (some (H.next, 0)) 1 1 true) = some (.slice (some (H.next + 1, 0)) 1 (n + 1) false, H2) ∧ H2.next = H.next + 2 ∧ (∀ y, y < H.next → y ≠ x → H2.get y = H.get y) ∧ Sw H2 (.slice (some (H.next + 1, 0)) 1 (n + 1) false) (n + 1) (cs ++ [u]) (H.next + 1) := by
  obtain ⟨i, cl, rfl, h1, h2, h3⟩ := h
  have c1 := Chg.newRow H [u]
  have hx := h2.1
  have r1 : Rd (H.newRow [u]) x i cs := h2.keep c1.1 (c1.keep hx (by simp))
  have hsrc : srcA (H.newRow [u]) 1 false (.slice (some (H.next, 0)) 1 1 true) = some ([u], 1) := srcA_slice (Rd.newRow H [u]) rfl
  have hld : loadA (H.newRow [u]) x i n = some cs := r1.load h1
  have hm0 : Nat.beq 1 0 = false := rfl
  have hbb : (((n + 1) * 8).ble 140737488355328 && (n + 1).ble 140737488355328) = true := by rw [Nat.ble_eq_true_of_le (by omega), Nat.ble_eq_true_of_le (by omega)]; rfl
  have fin : ∀ (HX : AHeap) (c : Tr AV) (par : List Nat), HX.next = H.next + 1 → (∀ y, y < H.next → y ≠ x → HX.get y = H.get y) → (∀ j w, (cs ++ [u])[j]? = some w → c.get j = some w) →
      ∃ H2, some (AV.slice (some (H.next + 1, 0)) 1 (n + 1) false, HX.new (.cells c (n + 1) true par)) = some (.slice (some (H.next + 1, 0)) 1 (n + 1) false, H2) ∧ H2.next = H.next + 2 ∧ (∀ y, y < H.next → y ≠ x → H2.get y = H.get y) ∧ Sw H2 (.slice (some (H.next + 1, 0)) 1 (n + 1) false) (n + 1) (cs ++ [u]) (H.next + 1) := by
    intro HX c par hn hk hc
    refine ⟨_, rfl, by rw [next_new, hn], fun y hy hyx => by rw [get_new, if_neg (by omega), hk y hy hyx], 0, false, rfl, by simp [h1], ⟨by rw [next_new, hn]; omega, c, n + 1, true, par, by rw [get_new, if_pos hn], by simp [h1], fun j w hj => by rw [Nat.zero_add]; exact hc j w hj⟩, fun _ => ⟨c, par, by rw [get_new, if_pos hn, Nat.zero_add]⟩⟩
  have hnew : ∀ j w, (cs ++ [u])[j]? = some w → (ofL (cs ++ [u]) 0 .nil).get j = some w := fun j w hj => by
    have := (List.getElem?_eq_some_iff.1 hj).1
    rw [get_ofL, if_pos (by omega)]
    simpa using hj
  have hlen : (cs ++ [u]).length = n + 1 := by simp [h1]
  have hA : cl = true → appendA (H.newRow [u]) 1 8 false (.slice (some (x, i)) 1 n cl) (.slice (some (H.next, 0)) 1 1 true) = some (.slice (some (H.next + 1, 0)) 1 (n + 1) false, (H.newRow [u]).newRow (cs ++ [u])) := by
    rintro rfl
    unfold appendA
    simp only [hsrc, hm0, hbb, cond_true, cond_false, Nat.beq_refl, Nat.mul_one, hld]
    rfl
  cases cl with
  | true =>
    have e : appendF (H.newRow [u]) 1 8 false (.slice (some (x, i)) 1 n true) (.slice (some (H.next, 0)) 1 1 true) = some (.slice (some (H.next + 1, 0)) 1 (n + 1) false, (H.newRow [u]).new (.cells (ofL (cs ++ [u]) 0 .nil) (n + 1) true [])) := by
      have := hA rfl
      have hnr : (H.newRow [u]).newRow (cs ++ [u]) = (H.newRow [u]).new (.cells (ofL (cs ++ [u]) 0 .nil) (n + 1) true []) := by rw [← hlen]; rfl
      rw [hnr] at this
      unfold appendF
      cases i <;> exact this
    rw [e]
    exact fin _ _ _ rfl (fun y hy _ => get_newRow hy) hnew
  | false =>
    obtain ⟨c, par, hg⟩ := h3 rfl
    have hg1 : (H.newRow [u]).get x = .cells c (i + n) true par := by rw [get_newRow hx]; exact hg
    have hput : ∀ y, y < H.next → y ≠ x → ((H.newRow [u]).put x (.cells c (i + n) false par)).get y = H.get y := fun y hy hyx => by rw [get_put, if_neg (Ne.symm hyx), get_newRow hy]
    by_cases h0 : i = 0
    · subst h0
      have hb : (n * 1).beq (0 + n) = true := nbt' (by omega)
      have e : appendF (H.newRow [u]) 1 8 false (.slice (some (x, 0)) 1 n false) (.slice (some (H.next, 0)) 1 1 true) = some (.slice (some (H.next + 1, 0)) 1 (n + 1) false, ((H.newRow [u]).put x (.cells c (0 + n) false par)).new (.cells (ofL [u] (0 + n) c) (0 + n + 1) true (x :: par))) := by
        unfold appendF
        simp only [hg1, hb, Nat.beq_refl, Bool.and_self, cond_true, hsrc, hm0, cond_false, hbb]
        rfl
      rw [e]
      have e2 : 0 + n + 1 = n + 1 := by omega
      rw [e2]
      refine fin _ _ _ rfl hput fun j w hj => ?_
      have hjl := (List.getElem?_eq_some_iff.1 hj).1
      rw [hlen] at hjl
      rw [get_ofL]
      by_cases hj1 : j < n
      · rw [if_neg (by omega)]
        rw [List.getElem?_append_left (by omega)] at hj
        obtain ⟨-, c', k', own', par', hc', hk', hf'⟩ := h2
        rw [hg] at hc'
        injection hc' with e1 _ _ _
        subst e1
        have := hf' j w hj
        rwa [Nat.zero_add] at this
      · rw [if_pos (by simp; omega)]
        rwa [List.getElem?_append_right (by omega), h1, ← Nat.zero_add n] at hj
    · have hb : (i + n * 1).beq (i + n) = true := nbt' (by omega)
      have e : appendF (H.newRow [u]) 1 8 false (.slice (some (x, i)) 1 n false) (.slice (some (H.next, 0)) 1 1 true) = some (.slice (some (H.next + 1, 0)) 1 (n + 1) false, ((H.newRow [u]).put x (.cells c (i + n) false par)).new (.cells (ofL (cs ++ [u]) 0 .nil) (n + 1) true (x :: par))) := by
        have : appendA (H.newRow [u]) 1 8 false (.slice (some (x, i)) 1 n false) (.slice (some (H.next, 0)) 1 1 true) = some (.slice (some (H.next + 1, 0)) 1 (n + 1) false, ((H.newRow [u]).put x (.cells c (i + n) false par)).new (.cells (ofL (cs ++ [u]) 0 .nil) (n + 1) true (x :: par))) := by
          unfold appendA
          simp only [hsrc, hm0, hbb, cond_true, cond_false, Nat.beq_refl, Nat.mul_one, hld, hg1]
          have : (i + n).beq (i + n) = true := Nat.beq_refl _
          simp only [this, cond_true, hlen]
          rfl
        unfold appendF
        cases i with
        | zero => exact absurd rfl h0
        | succ i => exact this
      rw [e]
      exact fin _ _ _ rfl hput hnew
theorem Sw.tail {v : AV} {n : Nat} {c : AV} {cs : List AV} {x : Nat} (h : Sw H v (n + 1) (c :: cs) x) : ∃ i cl, v = .slice (some (x, i)) 1 (n + 1) cl ∧ loadA H x i 1 = some [c] ∧ Sw H (.slice (some (x, i + 1)) 1 n cl) n cs x := by
  obtain ⟨i, cl, rfl, h1, h2, h3⟩ := h
  refine ⟨i, cl, rfl, ?_, i + 1, cl, rfl, by simpa using h1, h2.tail, fun e => ?_⟩
  · exact h2.one (j := 0) rfl
  · obtain ⟨c', par, hg⟩ := h3 e
    exact ⟨c', par, by rw [hg]; congr 1; omega⟩
def and3v (x : Int) : Int := IntKind.i64.wrap ((BitVec.ofInt IntKind.i64.bits x &&& BitVec.ofInt IntKind.i64.bits 3).toNat : Int)
theorem and3v_lt (x : Int) : ∃ k : Nat, k < 4 ∧ and3v x = k := by
  have h : (BitVec.ofInt IntKind.i64.bits x &&& BitVec.ofInt IntKind.i64.bits 3).toNat ≤ 3 := by
    rw [BitVec.toNat_and]
    exact Nat.le_trans Nat.and_le_right (by decide)
  exact ⟨_, by omega, wrap64 (by omega) (by omega)⟩
/-- The urgent's invariant: who is away waits at the one semaphore. -/
structure Urg (s : QS) (n : Nat) : Prop where
  inv : Inv s
  inn : ∀ p, s.inn p = decide (p < n)
  w4 : s.r 4 = []
  w6 : s.r 6 = []
  w7 : s.r 7 = []
  sl : s.s = []
  c1 : s.c 1 = 0
theorem Urg.home (h : Urg s n) {p : Nat} (hp : p < n) (ha : p ∉ s.r 5) : p ∈ s.r (s.lv p) := by
  have h1 := h.inv.one p
  rw [h.inn p, if_pos (by simpa using hp)] at h1
  have h5 : (s.r 5).count p = 0 := List.count_eq_zero.2 ha
  unfold cnt at h1
  rw [h.w4, h.w6, h.w7, h.sl, h5] at h1
  simp only [List.count_nil, List.map_nil] at h1
  have key : ∀ l, l < 4 → 0 < (s.r l).count p → p ∈ s.r (s.lv p) := fun l hl hc => by
    have hm : p ∈ s.r l := List.count_pos_iff.1 hc
    rw [h.inv.rd l hl p hm]
    exact hm
  by_cases h0 : 0 < (s.r 0).count p
  · exact key 0 (by omega) h0
  · by_cases h1' : 0 < (s.r 1).count p
    · exact key 1 (by omega) h1'
    · by_cases h2 : 0 < (s.r 2).count p
      · exact key 2 (by omega) h2
      · exact key 3 (by omega) (by omega)
theorem top_max {l p : Nat} (hl : l < 4) (hp : p ∈ s.r l) : ∃ L, top s = some L ∧ l ≤ L := by
  have hne : s.r l ≠ [] := List.ne_nil_of_mem hp
  unfold top
  by_cases h3 : s.r 3 ≠ []
  · rw [if_pos h3]; exact ⟨3, rfl, by omega⟩
  · rw [if_neg h3]
    by_cases h2 : s.r 2 ≠ []
    · rw [if_pos h2]
      refine ⟨2, rfl, ?_⟩
      have : l ≠ 3 := by rintro rfl; exact h3 hne
      omega
    · rw [if_neg h2]
      by_cases h1 : s.r 1 ≠ []
      · rw [if_pos h1]
        refine ⟨1, rfl, ?_⟩
        have : l ≠ 3 := by rintro rfl; exact h3 hne
        have : l ≠ 2 := by rintro rfl; exact h2 hne
        omega
      · rw [if_neg h1]
        have e3 : l ≠ 3 := by rintro rfl; exact h3 hne
        have e2 : l ≠ 2 := by rintro rfl; exact h2 hne
        have e1 : l ≠ 1 := by rintro rfl; exact h1 hne
        obtain rfl : l = 0 := by omega
        rw [if_pos hne]
        exact ⟨0, rfl, Nat.le_refl _⟩
/-- None that is ready is more urgent than who runs. -/
theorem Urg.first (h : Urg s n) {p : Nat} (hp : p < n) (ha : p ∉ s.r 5) : ∃ f, fst1 s = some f ∧ s.lv p ≤ s.lv f := by
  obtain ⟨L, hL, hle⟩ := top_max (h.inv.lv4 p) (h.home hp ha)
  obtain ⟨hL4, f, t, e⟩ := top_some hL
  refine ⟨f, fst1_top hL e, ?_⟩
  rw [h.inv.rd L hL4 f (by rw [e]; exact List.mem_cons_self ..)]
  exact hle
theorem Urg.run (h : Urg s n) {f : Nat} (hf : fst1 s = some f) : f < n ∧ f ∉ s.r 5 ∧ f < 6 := by
  obtain ⟨l, t, ht, hl, e⟩ := fst1_some hf
  have hm : f ∈ s.r l := by rw [e]; exact List.mem_cons_self ..
  have hi := h.inv.memr (i := l) (by omega) hm
  refine ⟨by rw [h.inn f] at hi; simpa using hi, fun h5 => ?_, h.inv.inn f hi⟩
  have h1 := h.inv.le1 f
  have h2 := count_pos hm
  have h3 := count_pos h5
  unfold cnt at h1
  have : l = 0 ∨ l = 1 ∨ l = 2 ∨ l = 3 := by omega
  rcases this with rfl | rfl | rfl | rfl <;> omega
end
end Go.Proofs.Ytldlolpbnfgdeaa.AA
namespace Go.Proofs.Ytldlolpbnfgdeaa.AA
open Go Go.RowKit
set_option maxRecDepth 100000
attribute [local irreducible] Tr.set
set_option maxHeartbeats 4000000
section
variable {H : AHeap} {K : Nat → Prop} {q n : Nat} {s : QS}
theorem setr_ne {s : QS} {i j : Nat} {l : List Nat} (h : j ≠ i) : (s.setr i l).r j = s.r j := upd_ne h
theorem mReady_hi {p l : Nat} (hk : okR s p l = true) : (∀ j, 4 ≤ j → (mReady s p l).r j = s.r j) ∧ (mReady s p l).c = s.c ∧ (mReady s p l).lv = upd s.lv p l := by
  have hl : l < 4 := by
    simp only [okR, Bool.and_eq_true, decide_eq_true_eq] at hk
    omega
  have e : mReady s p l = ps (inn1 s p l) p := by simp only [mReady, hk, if_true, Int.toNat_natCast]
  have e1 : (inn1 s p l).lv p = l := by simp [inn1, upd]
  rw [e]
  refine ⟨fun j hj => ?_, rfl, rfl⟩
  unfold ps
  rw [e1, setr_ne (by omega)]
  rfl
theorem ps_hi {p : Nat} (h : s.lv p < 4) : ∀ j, 4 ≤ j → (ps s p).r j = s.r j := fun j hj => setr_ne (by omega)
theorem tk_c (s : QS) : (tk s).c = s.c := by
  unfold tk; split <;> rfl
/-- A turn. -/
theorem Urg.turn (h : Urg s n) : Urg (mTurn s) n ∧ (mTurn s).r 5 = s.r 5 ∧ (mTurn s).lv = s.lv := by
  have hi := h.inv.mTurn
  cases hf : fst1 s with
  | none =>
    have e : mTurn s = s := by simp [mTurn, hf]
    rw [e]
    exact ⟨h, rfl, rfl⟩
  | some f =>
    have e : mTurn s = ps (tk s) f := by simp [mTurn, hf]
    rw [e] at hi ⊢
    have hr : ∀ j, 4 ≤ j → (ps (tk s) f).r j = s.r j := fun j hj => by rw [ps_hi (by rw [tk_lv]; exact h.inv.lv4 f) j hj, tk_hi s hj]
    have e1 : (ps (tk s) f).inn = s.inn := tk_inn s
    have e2 : (ps (tk s) f).s = s.s := tk_s s
    have e3 : (ps (tk s) f).c = s.c := tk_c s
    have e4 : (ps (tk s) f).lv = s.lv := tk_lv s
    exact ⟨⟨hi, fun p => by rw [e1, h.inn p], by rw [hr 4 (by omega), h.w4], by rw [hr 6 (by omega), h.w6], by rw [hr 7 (by omega), h.w7], by rw [e2, h.sl], by rw [e3, h.c1]⟩, hr 5 (by omega), e4⟩
/-- Who runs goes away. -/
theorem Urg.wait (h : Urg s n) {f : Nat} (hf : fst1 s = some f) : okW s 1 = true ∧ Urg (mWait s 1) n ∧ (mWait s 1).r 5 = s.r 5 ++ [f] ∧ (mWait s 1).lv = s.lv := by
  have hk : okW s 1 = true := by simp [okW, hf]
  have hi := h.inv.mWait 1
  have e : mWait s 1 = (tk s).setr 5 ((tk s).r 5 ++ [f]) := by
    unfold mWait
    rw [if_pos hk, if_neg (by show ¬ 0 < s.c 1; rw [h.c1]; omega), hf]
    rfl
  rw [e] at hi ⊢
  have hr : ∀ j, 4 ≤ j → j ≠ 5 → ((tk s).setr 5 ((tk s).r 5 ++ [f])).r j = s.r j := fun j hj h5 => by rw [setr_ne h5, tk_hi s hj]
  have e1 : ((tk s).setr 5 ((tk s).r 5 ++ [f])).inn = s.inn := tk_inn s
  have e2 : ((tk s).setr 5 ((tk s).r 5 ++ [f])).s = s.s := tk_s s
  have e3 : ((tk s).setr 5 ((tk s).r 5 ++ [f])).c = s.c := tk_c s
  have e4 : ((tk s).setr 5 ((tk s).r 5 ++ [f])).lv = s.lv := tk_lv s
  have e5 : ((tk s).setr 5 ((tk s).r 5 ++ [f])).r 5 = s.r 5 ++ [f] := by
    show upd (tk s).r 5 ((tk s).r 5 ++ [f]) 5 = _
    rw [upd_same, tk_hi s (by omega)]
  exact ⟨hk, ⟨hi, fun p => by rw [e1, h.inn p], by rw [hr 4 (by omega) (by omega), h.w4], by rw [hr 6 (by omega) (by omega), h.w6], by rw [hr 7 (by omega) (by omega), h.w7], by rw [e2, h.sl], by rw [e3, h.c1]⟩, e5, e4⟩
/-- The first one that is away comes home. -/
theorem Urg.post (h : Urg s n) {f : Nat} {t : List Nat} (hf : s.r 5 = f :: t) : vPost s 1 = f ∧ Urg (mPost s 1) n ∧ (mPost s 1).r 5 = t ∧ (mPost s 1).lv = s.lv := by
  have hi := h.inv.mPost 1
  have hv : vPost s 1 = f := by
    unfold vPost
    rw [if_pos ⟨by omega, by omega⟩]
    show optI (s.r 5).head? = _
    rw [hf]; rfl
  have e : mPost s 1 = ps (s.setr 5 t) f := by
    unfold mPost
    rw [if_pos ⟨by omega, by omega⟩]
    show (match s.r 5 with | [] => _ | p :: t => ps (s.setr 5 t) p) = _
    rw [hf]
  rw [e] at hi ⊢
  have hl : (s.setr 5 t).lv f < 4 := h.inv.lv4 f
  have hr : ∀ j, 4 ≤ j → (ps (s.setr 5 t) f).r j = (s.setr 5 t).r j := ps_hi hl
  have e5 : (s.setr 5 t).r 5 = t := by
    show upd s.r 5 t 5 = t
    exact upd_same
  exact ⟨hv, ⟨hi, h.inn, by rw [hr 4 (by omega), setr_ne (by omega), h.w4], by rw [hr 6 (by omega), setr_ne (by omega), h.w6], by rw [hr 7 (by omega), setr_ne (by omega), h.w7], h.sl, h.c1⟩, by rw [hr 5 (by omega), e5], rfl⟩
/-- What the law keeps beside the queue. -/
structure Sid (H0 : AHeap) (lb ab q : Nat) (s : QS) (n x : Nat) (v : AV) (H : AHeap) : Prop where
  solo : Solo (fun y => y < H0.next ∨ y = lb ∨ y = ab ∨ y = x) H q s
  old : Chg H0 H none
  lv : ∃ fl, Blk H lb 6 fl ∧ ∀ p, p < n → fl p = .int .i64 (s.lv p)
  aw : ∃ fa, Blk H ab 6 fa ∧ ∀ p, p < 6 → fa p = .bool (decide (p ∈ s.r 5))
  wt : Sw H v (s.r 5).length (nats (s.r 5)) x
  ne : lb ≠ ab ∧ lb ≠ x ∧ ab ≠ x ∧ H0.next ≤ lb ∧ H0.next ≤ ab ∧ H0.next ≤ x
/-- The queue has moved, those away are the same. -/
theorem Sid.move {H0 H' : AHeap} {lb ab x : Nat} {v : AV} {s' : QS} (h : Sid H0 lb ab q s n x v H) (hn : H.next ≤ H'.next) (solo : Solo (fun y => y < H0.next ∨ y = lb ∨ y = ab ∨ y = x) H' q s') (k : ∀ y, (y < H0.next ∨ y = lb ∨ y = ab ∨ y = x) → H'.get y = H.get y) :
    Chg H0 H' none ∧ (∃ fl, Blk H' lb 6 fl ∧ ∀ p, p < n → fl p = .int .i64 (s.lv p)) ∧ (∃ fa, Blk H' ab 6 fa ∧ ∀ p, p < 6 → fa p = .bool (decide (p ∈ s.r 5))) ∧ Sw H' v (s.r 5).length (nats (s.r 5)) x := by
  obtain ⟨-, old, ⟨fl, hl, hl'⟩, ⟨fa, ha, ha'⟩, wt, ne⟩ := h
  refine ⟨⟨by have := old.1; omega, fun y hy => ?_⟩, ⟨fl, hl.keep' hn (k lb (.inr (.inl rfl))), hl'⟩, ⟨fa, ha.keep' hn (k ab (.inr (.inr (.inl rfl)))), ha'⟩, wt.keep hn (k x (.inr (.inr (.inr rfl))))⟩
  have e : H'.get y = H0.get y := by rw [k y (.inl hy), old.keep hy (by simp)]
  exact ⟨.inl e, fun _ => e⟩
end
end Go.Proofs.Ytldlolpbnfgdeaa.AA
namespace Go.Proofs.Ytldlolpbnfgdeaa.AA
open Go Go.RowKit
set_option maxRecDepth 100000
attribute [local irreducible] Tr.set
set_option maxHeartbeats 4000000
section
variable {H : AHeap}
def z6 : List AV := [.int .i64 0, .int .i64 0, .int .i64 0, .int .i64 0, .int .i64 0, .int .i64 0]
def b6 : List AV := [.bool false, .bool false, .bool false, .bool false, .bool false, .bool false]
def UA (H : AHeap) (a0 a1 : AV) (p : Nat) (s : QS) (fr : AFr) (H' : AHeap) : Prop := Urg s p ∧ Solo (fun y => y < H.next ∨ y = H.next + 1 ∨ y = H.next + 2 ∨ y = H.next + 2) H' H.next s ∧ Chg H H' none ∧
  (∃ fl, Blk H' (H.next + 1) 6 fl ∧ ∀ z, z < p → fl z = .int .i64 (s.lv z)) ∧ (∃ fa, Blk H' (H.next + 2) 6 fa ∧ ∀ z, z < 6 → fa z = .bool false) ∧ s.r 5 = [] ∧
  fr.get 0 = some a0 ∧ fr.get 1 = some a1 ∧ fr.get 5 = some (.ptr (some (H.next, 0))) ∧ fr.get 6 = some (.ptr (some (H.next + 1, 0))) ∧ fr.get 7 = some (.ptr (some (H.next + 2, 0))) ∧ fr.get 8 = some (.int .i64 p) ∧ fr.get 9 = some (.int .i64 p)
def UB (H : AHeap) (a1 : AV) (n i : Nat) (fr : AFr) (H' : AHeap) : Prop := ∃ (s : QS) (x : Nat) (v : AV), Urg s n ∧ Sid H (H.next + 1) (H.next + 2) H.next s n x v H' ∧
  fr.get 1 = some a1 ∧ fr.get 5 = some (.ptr (some (H.next, 0))) ∧ fr.get 6 = some (.ptr (some (H.next + 1, 0))) ∧ fr.get 7 = some (.ptr (some (H.next + 2, 0))) ∧ fr.get 8 = some (.int .i64 n) ∧ fr.get 10 = some v ∧ fr.get 11 = some (.int .i64 i)
theorem c_urgent {v0 v1 : AV} {N : Nat} {f : Nat → Int} {l : List Ask} (hs : Sv H v0 N ((List.range N).map fun j => iv (f j))) (hs1 : Sv H v1 l.length (askc l)) : CW M0 8 [v0, v1] H fun u _ => u = .bool true := by
  refine CW_of (fn := af8) rfl ?_
  obtain ⟨a, s0, cl, ev, hrd⟩ := hs
  subst ev
  obtain ⟨a1, s1, cl1, ev1, hrd1⟩ := hs1
  subst ev1
  have h3v : ∀ x : Int, IntKind.i64.wrap ((BitVec.ofInt IntKind.i64.bits x &&& BitVec.ofInt IntKind.i64.bits 3).toNat : Int) = and3v x := fun _ => rfl
  unfold af8
  simp -implicitDefEqProofs only [↓WP_seq, ↓WP_skip, ↓WP_region, ↓WP_dregion, ↓WP_cond, ↓WP_block, ↓WP_exit, ↓WP_ret, ↓OW_nil, ↓OW_cons, ↓DW_nil, ↓DW_cons, ↓XW_call, XW, exA, KO_eq, KD_eq, OptK_some, EvK_some, GW2_true, GW2_false, KS_normal, KS_ret, KS_exit, KB_normal, KB_ret, KB_exit, CP2_bool, RP_ret, RP_normal, putA_some, putA_none, ev_t, ev_c, evs, evo, wantA, initA, resA, Tr.get_set, vl, chkOk, cond_true, cond_false, Nat.add_zero, Nat.mul_one, Nat.one_mul, Nat.zero_add, Nat.zero_mul, aggOf, pInt, binA, unA, intA, beq_true, beq_false, Bool.not_true, Bool.not_false, Bool.not_eq_true, and_self, and_true, true_and, ↓reduceIte, reduceIte, Nat.reduceEqDiff, Nat.succ_ne_self, Nat.reduceAdd, Nat.reduceMul, Nat.reduceSub, Nat.reduceBEq, Nat.reduceLT, Nat.reduceLeDiff, Int.cast_ofNat_Int, Int.reduceToNat, Int.reduceLT, Int.reduceLE, Int.reduceGE, Int.reduceGT, Int.reduceEq, Int.reduceNe, Int.reduceAdd, Int.reduceSub, Int.reduceNeg, decide_true, decide_false, Int.toNat_natCast, reduceCtorEq, List.nil_append, List.cons_append, AV.boxy, AV.cells, List.length_cons, List.length_nil, Nat.beq_refl, AOp.cl, ↓OW_guard, ↓DW_guard, KDW_0, KDW_1, KDW_2, OWskip_eq, DWskip_eq, fillA, setAt, DChk, DAt, stepA, ble_dec, beq_dec, Bool.and_self, Bool.and_true, Bool.true_and, Bool.and_false, Bool.false_and, List.take_succ_cons, List.take_zero, List.drop_succ_cons, List.drop_zero, List.take_nil, List.drop_nil, List.append_nil, eqAV, eqAVL, BEq.rfl, eqA, eqD, sameS, Option.map, Option.isNone, addrA, wrap64, gt_iff_lt, ge_iff_le, Int.lt_irrefl, Int.le_refl]
  refine CW.mono c_New ?_
  rintro u H1 ⟨rfl, rfl⟩
  have en1 : (H.newRow zP).next = H.next + 1 := rfl
  have en2 : ((H.newRow zP).newRow z6).next = H.next + 2 := rfl
  have ez : z6 = [.int .i64 0, .int .i64 0, .int .i64 0, .int .i64 0, .int .i64 0, .int .i64 0] := rfl
  have eb : b6 = [.bool false, .bool false, .bool false, .bool false, .bool false, .bool false] := rfl
  simp -implicitDefEqProofs only [Bool.false_eq_true, en1, ↓WP_seq, ↓WP_skip, ↓WP_region, ↓WP_dregion, ↓WP_cond, ↓WP_block, ↓WP_exit, ↓WP_ret, ↓OW_nil, ↓OW_cons, ↓DW_nil, ↓DW_cons, ↓XW_call, XW, exA, KO_eq, KD_eq, OptK_some, EvK_some, GW2_true, GW2_false, KS_normal, KS_ret, KS_exit, KB_normal, KB_ret, KB_exit, CP2_bool, RP_ret, RP_normal, putA_some, putA_none, ev_t, ev_c, evs, evo, wantA, initA, resA, Tr.get_set, vl, chkOk, cond_true, cond_false, Nat.add_zero, Nat.mul_one, Nat.one_mul, Nat.zero_add, Nat.zero_mul, aggOf, pInt, binA, unA, intA, beq_true, beq_false, Bool.not_true, Bool.not_false, Bool.not_eq_true, and_self, and_true, true_and, ↓reduceIte, reduceIte, Nat.reduceEqDiff, Nat.succ_ne_self, Nat.reduceAdd, Nat.reduceMul, Nat.reduceSub, Nat.reduceBEq, Nat.reduceLT, Nat.reduceLeDiff, Int.cast_ofNat_Int, Int.reduceToNat, Int.reduceLT, Int.reduceLE, Int.reduceGE, Int.reduceGT, Int.reduceEq, Int.reduceNe, Int.reduceAdd, Int.reduceSub, Int.reduceNeg, decide_true, decide_false, Int.toNat_natCast, reduceCtorEq, List.nil_append, List.cons_append, AV.boxy, AV.cells, List.length_cons, List.length_nil, Nat.beq_refl, AOp.cl, ↓OW_guard, ↓DW_guard, KDW_0, KDW_1, KDW_2, OWskip_eq, DWskip_eq, fillA, setAt, DChk, DAt, stepA, ble_dec, beq_dec, Bool.and_self, Bool.and_true, Bool.true_and, Bool.and_false, Bool.false_and, List.take_succ_cons, List.take_zero, List.drop_succ_cons, List.drop_zero, List.take_nil, List.drop_nil, List.append_nil, eqAV, eqAVL, BEq.rfl, eqA, eqD, sameS, Option.map, Option.isNone, addrA, wrap64, gt_iff_lt, ge_iff_le, Int.lt_irrefl, Int.le_refl]
  rw [← ez, ← eb]
  have c1 := Chg.newRow H zP
  have c2 := Chg.newRow (H.newRow zP) z6
  have c3 := Chg.newRow ((H.newRow zP).newRow z6) b6
  have en3 : (((H.newRow zP).newRow z6).newRow b6).next = H.next + 3 := rfl
  refine WP_mono (Q := fun ex fr H' => ex = .exit 0 ∧ ∃ (p : Nat) (s : QS), p ≤ 6 ∧ UA H (.slice a s0 N cl) (.slice a1 s1 l.length cl1) p s fr H') ?_ ?_
  · rintro ex fr H1 ⟨rfl, n, s, hn6, urg, solo, ch, ⟨fl, bl, hfl⟩, ⟨fa, ba, hfa⟩, hr5, g0, g1, g5, g6, g7, g8, g9⟩
    have cN := Chg.newRow H1 []
    have hl1 := ch.1
    simp -implicitDefEqProofs only [g0, g1, g5, g6, g7, g8, g9, ↓WP_seq, ↓WP_skip, ↓WP_region, ↓WP_dregion, ↓WP_cond, ↓WP_block, ↓WP_exit, ↓WP_ret, ↓OW_nil, ↓OW_cons, ↓DW_nil, ↓DW_cons, ↓XW_call, XW, exA, KO_eq, KD_eq, OptK_some, EvK_some, GW2_true, GW2_false, KS_normal, KS_ret, KS_exit, KB_normal, KB_ret, KB_exit, CP2_bool, RP_ret, RP_normal, putA_some, putA_none, ev_t, ev_c, evs, evo, wantA, initA, resA, Tr.get_set, vl, chkOk, cond_true, cond_false, Nat.add_zero, Nat.mul_one, Nat.one_mul, Nat.zero_add, Nat.zero_mul, aggOf, pInt, binA, unA, intA, beq_true, beq_false, Bool.not_true, Bool.not_false, Bool.not_eq_true, and_self, and_true, true_and, ↓reduceIte, reduceIte, Nat.reduceEqDiff, Nat.succ_ne_self, Nat.reduceAdd, Nat.reduceMul, Nat.reduceSub, Nat.reduceBEq, Nat.reduceLT, Nat.reduceLeDiff, Int.cast_ofNat_Int, Int.reduceToNat, Int.reduceLT, Int.reduceLE, Int.reduceGE, Int.reduceGT, Int.reduceEq, Int.reduceNe, Int.reduceAdd, Int.reduceSub, Int.reduceNeg, decide_true, decide_false, Int.toNat_natCast, reduceCtorEq, List.nil_append, List.cons_append, AV.boxy, AV.cells, List.length_cons, List.length_nil, Nat.beq_refl, AOp.cl, ↓OW_guard, ↓DW_guard, KDW_0, KDW_1, KDW_2, OWskip_eq, DWskip_eq, fillA, setAt, DChk, DAt, stepA, ble_dec, beq_dec, Bool.and_self, Bool.and_true, Bool.true_and, Bool.and_false, Bool.false_and, List.take_succ_cons, List.take_zero, List.drop_succ_cons, List.drop_zero, List.take_nil, List.drop_nil, List.append_nil, eqAV, eqAVL, BEq.rfl, eqA, eqD, sameS, Option.map, Option.isNone, addrA, wrap64, gt_iff_lt, ge_iff_le, Int.lt_irrefl, Int.le_refl]
    have hb1 : H.next + 2 < H1.next := ba.1
    have sid0 : Sid H (H.next + 1) (H.next + 2) H.next s n H1.next (.slice (some (H1.next, 0)) 1 0 true) (H1.newRow []) := by
      refine ⟨?_, ch.trans cN, ⟨fl, bl.keep' cN.1 (cN.keep bl.1 (by simp)), hfl⟩, ⟨fa, ba.keep' cN.1 (cN.keep ba.1 (by simp)), fun z hz => by rw [hfa z hz, hr5]; rfl⟩, ?_, by omega, by omega, by omega, by omega, by omega, by omega⟩
      · refine solo.step cN.1 (fun y hy _ => cN.keep hy (by simp)) fun y hy => ?_
        have : (H1.newRow []).next = H1.next + 1 := rfl
        rcases hy with hy | rfl | rfl | rfl
        · exact ⟨by omega, .inl (.inl hy)⟩
        · exact ⟨by omega, .inl (.inr (.inl rfl))⟩
        · exact ⟨by omega, .inl (.inr (.inr (.inl rfl)))⟩
        · exact ⟨by omega, .inr (Nat.le_refl _)⟩
      · rw [hr5]
        exact ⟨0, true, rfl, rfl, Rd.newRow H1 [], by simp⟩
    refine WP_loop (fun m fr H' => ∃ i : Nat, m + i = 80 ∧ UB H (.slice a1 s1 l.length cl1) n i fr H') 80 ?_ ?_
    · refine ⟨0, rfl, s, H1.next, _, urg, sid0, ?_⟩
      simp -implicitDefEqProofs only [g0, g1, g5, g6, g7, g8, g9, ↓WP_seq, ↓WP_skip, ↓WP_region, ↓WP_dregion, ↓WP_cond, ↓WP_block, ↓WP_exit, ↓WP_ret, ↓OW_nil, ↓OW_cons, ↓DW_nil, ↓DW_cons, ↓XW_call, XW, exA, KO_eq, KD_eq, OptK_some, EvK_some, GW2_true, GW2_false, KS_normal, KS_ret, KS_exit, KB_normal, KB_ret, KB_exit, CP2_bool, RP_ret, RP_normal, putA_some, putA_none, ev_t, ev_c, evs, evo, wantA, initA, resA, Tr.get_set, vl, chkOk, cond_true, cond_false, Nat.add_zero, Nat.mul_one, Nat.one_mul, Nat.zero_add, Nat.zero_mul, aggOf, pInt, binA, unA, intA, beq_true, beq_false, Bool.not_true, Bool.not_false, Bool.not_eq_true, and_self, and_true, true_and, ↓reduceIte, reduceIte, Nat.reduceEqDiff, Nat.succ_ne_self, Nat.reduceAdd, Nat.reduceMul, Nat.reduceSub, Nat.reduceBEq, Nat.reduceLT, Nat.reduceLeDiff, Int.cast_ofNat_Int, Int.reduceToNat, Int.reduceLT, Int.reduceLE, Int.reduceGE, Int.reduceGT, Int.reduceEq, Int.reduceNe, Int.reduceAdd, Int.reduceSub, Int.reduceNeg, decide_true, decide_false, Int.toNat_natCast, reduceCtorEq, List.nil_append, List.cons_append, AV.boxy, AV.cells, List.length_cons, List.length_nil, Nat.beq_refl, AOp.cl, ↓OW_guard, ↓DW_guard, KDW_0, KDW_1, KDW_2, OWskip_eq, DWskip_eq, fillA, setAt, DChk, DAt, stepA, ble_dec, beq_dec, Bool.and_self, Bool.and_true, Bool.true_and, Bool.and_false, Bool.false_and, List.take_succ_cons, List.take_zero, List.drop_succ_cons, List.drop_zero, List.take_nil, List.drop_nil, List.append_nil, eqAV, eqAVL, BEq.rfl, eqA, eqD, sameS, Option.map, Option.isNone, addrA, wrap64, gt_iff_lt, ge_iff_le, Int.lt_irrefl, Int.le_refl]
    · clear sid0 hr5 hfa ba fa hfl bl fl solo urg g0 g1 g5 g6 g7 g8 g9 ch hb1 cN hl1
      rintro m fr H1 ⟨i, hmi, s, x, v, urg, sid, g1, g5, g6, g7, g8, g10, g11⟩
      by_cases hlt : i < l.length ∧ i < 80 ∧ 0 < n
      · obtain ⟨hi1, hi2, hn0⟩ := hlt
        have hi1' : (i : Int) < (l.length : Int) := by omega
        have hi2' : (i : Int) < 80 := by omega
        have hn0' : (0 : Int) < (n : Int) := by omega
        have hi0 : (0 : Int) ≤ (i : Int) := by omega
        have hw : IntKind.i64.wrap ((i : Int) + 1) = ((i + 1 : Nat) : Int) := by rw [wrap64 (by omega) (by omega)]; omega
        have sid' := sid
        obtain ⟨solo, ch, ⟨fl, bl, hfl⟩, ⟨fa, ba, hfa⟩, wt, hne⟩ := sid
        obtain ⟨fq, D, hq, nq⟩ := solo.on
        simp -implicitDefEqProofs only [g1, g5, g6, g7, g8, g10, g11, hi1', hi2', hn0', ↓WP_seq, ↓WP_skip, ↓WP_region, ↓WP_dregion, ↓WP_cond, ↓WP_block, ↓WP_exit, ↓WP_ret, ↓OW_nil, ↓OW_cons, ↓DW_nil, ↓DW_cons, ↓XW_call, XW, exA, KO_eq, KD_eq, OptK_some, EvK_some, GW2_true, GW2_false, KS_normal, KS_ret, KS_exit, KB_normal, KB_ret, KB_exit, CP2_bool, RP_ret, RP_normal, putA_some, putA_none, ev_t, ev_c, evs, evo, wantA, initA, resA, Tr.get_set, vl, chkOk, cond_true, cond_false, Nat.add_zero, Nat.mul_one, Nat.one_mul, Nat.zero_add, Nat.zero_mul, aggOf, pInt, binA, unA, intA, beq_true, beq_false, Bool.not_true, Bool.not_false, Bool.not_eq_true, and_self, and_true, true_and, ↓reduceIte, reduceIte, Nat.reduceEqDiff, Nat.succ_ne_self, Nat.reduceAdd, Nat.reduceMul, Nat.reduceSub, Nat.reduceBEq, Nat.reduceLT, Nat.reduceLeDiff, Int.cast_ofNat_Int, Int.reduceToNat, Int.reduceLT, Int.reduceLE, Int.reduceGE, Int.reduceGT, Int.reduceEq, Int.reduceNe, Int.reduceAdd, Int.reduceSub, Int.reduceNeg, decide_true, decide_false, Int.toNat_natCast, reduceCtorEq, List.nil_append, List.cons_append, AV.boxy, AV.cells, List.length_cons, List.length_nil, Nat.beq_refl, AOp.cl, ↓OW_guard, ↓DW_guard, KDW_0, KDW_1, KDW_2, OWskip_eq, DWskip_eq, fillA, setAt, DChk, DAt, stepA, ble_dec, beq_dec, Bool.and_self, Bool.and_true, Bool.true_and, Bool.and_false, Bool.false_and, List.take_succ_cons, List.take_zero, List.drop_succ_cons, List.drop_zero, List.take_nil, List.drop_nil, List.append_nil, eqAV, eqAVL, BEq.rfl, eqA, eqD, sameS, Option.map, Option.isNone, addrA, wrap64, gt_iff_lt, ge_iff_le, Int.lt_irrefl, Int.le_refl]
        refine CW.mono (c_First hq.qlP) ?_
        rintro u H2 ⟨rfl, rfl⟩
        simp -implicitDefEqProofs only [g1, g5, g6, g7, g8, g10, g11, iv, ↓WP_seq, ↓WP_skip, ↓WP_region, ↓WP_dregion, ↓WP_cond, ↓WP_block, ↓WP_exit, ↓WP_ret, ↓OW_nil, ↓OW_cons, ↓DW_nil, ↓DW_cons, ↓XW_call, XW, exA, KO_eq, KD_eq, OptK_some, EvK_some, GW2_true, GW2_false, KS_normal, KS_ret, KS_exit, KB_normal, KB_ret, KB_exit, CP2_bool, RP_ret, RP_normal, putA_some, putA_none, ev_t, ev_c, evs, evo, wantA, initA, resA, Tr.get_set, vl, chkOk, cond_true, cond_false, Nat.add_zero, Nat.mul_one, Nat.one_mul, Nat.zero_add, Nat.zero_mul, aggOf, pInt, binA, unA, intA, beq_true, beq_false, Bool.not_true, Bool.not_false, Bool.not_eq_true, and_self, and_true, true_and, ↓reduceIte, reduceIte, Nat.reduceEqDiff, Nat.succ_ne_self, Nat.reduceAdd, Nat.reduceMul, Nat.reduceSub, Nat.reduceBEq, Nat.reduceLT, Nat.reduceLeDiff, Int.cast_ofNat_Int, Int.reduceToNat, Int.reduceLT, Int.reduceLE, Int.reduceGE, Int.reduceGT, Int.reduceEq, Int.reduceNe, Int.reduceAdd, Int.reduceSub, Int.reduceNeg, decide_true, decide_false, Int.toNat_natCast, reduceCtorEq, List.nil_append, List.cons_append, AV.boxy, AV.cells, List.length_cons, List.length_nil, Nat.beq_refl, AOp.cl, ↓OW_guard, ↓DW_guard, KDW_0, KDW_1, KDW_2, OWskip_eq, DWskip_eq, fillA, setAt, DChk, DAt, stepA, ble_dec, beq_dec, Bool.and_self, Bool.and_true, Bool.true_and, Bool.and_false, Bool.false_and, List.take_succ_cons, List.take_zero, List.drop_succ_cons, List.drop_zero, List.take_nil, List.drop_nil, List.append_nil, eqAV, eqAVL, BEq.rfl, eqA, eqD, sameS, Option.map, Option.isNone, addrA, wrap64, gt_iff_lt, ge_iff_le, Int.lt_irrefl, Int.le_refl]
        refine WP_mono (Q := fun ex fr H' => ex = .exit 4 ∧ H' = H2 ∧ fr.get 1 = some (.slice a1 s1 l.length cl1) ∧ fr.get 5 = some (.ptr (some (H.next, 0))) ∧ fr.get 6 = some (.ptr (some (H.next + 1, 0))) ∧ fr.get 7 = some (.ptr (some (H.next + 2, 0))) ∧ fr.get 8 = some (.int .i64 n) ∧ fr.get 10 = some v ∧ fr.get 11 = some (.int .i64 i) ∧ fr.get 12 = some (.int .i64 (optI (fst1 s)))) ?_ ?_
        · rintro ex fr2 H3 ⟨rfl, rfl, f1, f5, f6, f7, f8, f10, f11, f12⟩
          obtain ⟨l1, xa, l2, hx, hl1, ht1, ht2⟩ := split_at hi1
          obtain ⟨y, o, ea, e4⟩ := hrd1 (by omega)
          subst ea
          have r1 : Rd H3 y o (askc l) := Rd.keep e4 ch.1 (ch.keep e4.1 (by simp))
          obtain ⟨lk, -, -, -⟩ := ask_lds (r1.congr (congrArg askc hx)) hl1
          obtain ⟨k, hk4, hk⟩ := and3v_lt xa.1
          cases hff : fst1 s with
          | none =>
            rw [hff] at f12
            simp only [optI] at f12
            have hck : ¬ (n : Int) ≤ -1 := by omega
            have hneg : ¬ (0 : Int) ≤ -1 := by omega
            rcases (show k = 0 ∨ k = 1 ∨ k = 2 ∨ k = 3 by omega) with rfl | rfl | rfl | rfl
            · have q0 : (((0 : Nat) : Int) == 0) = true := rfl
              have q1 : (((0 : Nat) : Int) == 1) = false := rfl
              simp -implicitDefEqProofs only [f1, f5, f6, f7, f8, f10, f11, f12, hi1', hi0, lk, h3v, hk, hw, iv, Bool.false_eq_true, hck, q0, q1, hneg, ↓WP_seq, ↓WP_skip, ↓WP_region, ↓WP_dregion, ↓WP_cond, ↓WP_block, ↓WP_exit, ↓WP_ret, ↓OW_nil, ↓OW_cons, ↓DW_nil, ↓DW_cons, ↓XW_call, XW, exA, KO_eq, KD_eq, OptK_some, EvK_some, GW2_true, GW2_false, KS_normal, KS_ret, KS_exit, KB_normal, KB_ret, KB_exit, CP2_bool, RP_ret, RP_normal, putA_some, putA_none, ev_t, ev_c, evs, evo, wantA, initA, resA, Tr.get_set, vl, chkOk, cond_true, cond_false, Nat.add_zero, Nat.mul_one, Nat.one_mul, Nat.zero_add, Nat.zero_mul, aggOf, pInt, binA, unA, intA, beq_true, beq_false, Bool.not_true, Bool.not_false, Bool.not_eq_true, and_self, and_true, true_and, ↓reduceIte, reduceIte, Nat.reduceEqDiff, Nat.succ_ne_self, Nat.reduceAdd, Nat.reduceMul, Nat.reduceSub, Nat.reduceBEq, Nat.reduceLT, Nat.reduceLeDiff, Int.cast_ofNat_Int, Int.reduceToNat, Int.reduceLT, Int.reduceLE, Int.reduceGE, Int.reduceGT, Int.reduceEq, Int.reduceNe, Int.reduceAdd, Int.reduceSub, Int.reduceNeg, decide_true, decide_false, Int.toNat_natCast, reduceCtorEq, List.nil_append, List.cons_append, AV.boxy, AV.cells, List.length_cons, List.length_nil, Nat.beq_refl, AOp.cl, ↓OW_guard, ↓DW_guard, KDW_0, KDW_1, KDW_2, OWskip_eq, DWskip_eq, fillA, setAt, DChk, DAt, stepA, ble_dec, beq_dec, Bool.and_self, Bool.and_true, Bool.true_and, Bool.and_false, Bool.false_and, List.take_succ_cons, List.take_zero, List.drop_succ_cons, List.drop_zero, List.take_nil, List.drop_nil, List.append_nil, eqAV, eqAVL, BEq.rfl, eqA, eqD, sameS, Option.map, Option.isNone, addrA, wrap64, gt_iff_lt, ge_iff_le, Int.lt_irrefl, Int.le_refl]
              refine ⟨m - 1, by omega, i + 1, by omega, s, x, v, urg, sid', ?_⟩
              simp -implicitDefEqProofs only [f1, f5, f6, f7, f8, f10, f11, ↓WP_seq, ↓WP_skip, ↓WP_region, ↓WP_dregion, ↓WP_cond, ↓WP_block, ↓WP_exit, ↓WP_ret, ↓OW_nil, ↓OW_cons, ↓DW_nil, ↓DW_cons, ↓XW_call, XW, exA, KO_eq, KD_eq, OptK_some, EvK_some, GW2_true, GW2_false, KS_normal, KS_ret, KS_exit, KB_normal, KB_ret, KB_exit, CP2_bool, RP_ret, RP_normal, putA_some, putA_none, ev_t, ev_c, evs, evo, wantA, initA, resA, Tr.get_set, vl, chkOk, cond_true, cond_false, Nat.add_zero, Nat.mul_one, Nat.one_mul, Nat.zero_add, Nat.zero_mul, aggOf, pInt, binA, unA, intA, beq_true, beq_false, Bool.not_true, Bool.not_false, Bool.not_eq_true, and_self, and_true, true_and, ↓reduceIte, reduceIte, Nat.reduceEqDiff, Nat.succ_ne_self, Nat.reduceAdd, Nat.reduceMul, Nat.reduceSub, Nat.reduceBEq, Nat.reduceLT, Nat.reduceLeDiff, Int.cast_ofNat_Int, Int.reduceToNat, Int.reduceLT, Int.reduceLE, Int.reduceGE, Int.reduceGT, Int.reduceEq, Int.reduceNe, Int.reduceAdd, Int.reduceSub, Int.reduceNeg, decide_true, decide_false, Int.toNat_natCast, reduceCtorEq, List.nil_append, List.cons_append, AV.boxy, AV.cells, List.length_cons, List.length_nil, Nat.beq_refl, AOp.cl, ↓OW_guard, ↓DW_guard, KDW_0, KDW_1, KDW_2, OWskip_eq, DWskip_eq, fillA, setAt, DChk, DAt, stepA, ble_dec, beq_dec, Bool.and_self, Bool.and_true, Bool.true_and, Bool.and_false, Bool.false_and, List.take_succ_cons, List.take_zero, List.drop_succ_cons, List.drop_zero, List.take_nil, List.drop_nil, List.append_nil, eqAV, eqAVL, BEq.rfl, eqA, eqD, sameS, Option.map, Option.isNone, addrA, wrap64, gt_iff_lt, ge_iff_le, Int.lt_irrefl, Int.le_refl]
            · have q0 : (((1 : Nat) : Int) == 0) = false := rfl
              have q1 : (((1 : Nat) : Int) == 1) = true := rfl
              simp -implicitDefEqProofs only [f1, f5, f6, f7, f8, f10, f11, f12, hi1', hi0, lk, h3v, hk, hw, iv, Bool.false_eq_true, hck, q0, q1, hneg, ↓WP_seq, ↓WP_skip, ↓WP_region, ↓WP_dregion, ↓WP_cond, ↓WP_block, ↓WP_exit, ↓WP_ret, ↓OW_nil, ↓OW_cons, ↓DW_nil, ↓DW_cons, ↓XW_call, XW, exA, KO_eq, KD_eq, OptK_some, EvK_some, GW2_true, GW2_false, KS_normal, KS_ret, KS_exit, KB_normal, KB_ret, KB_exit, CP2_bool, RP_ret, RP_normal, putA_some, putA_none, ev_t, ev_c, evs, evo, wantA, initA, resA, Tr.get_set, vl, chkOk, cond_true, cond_false, Nat.add_zero, Nat.mul_one, Nat.one_mul, Nat.zero_add, Nat.zero_mul, aggOf, pInt, binA, unA, intA, beq_true, beq_false, Bool.not_true, Bool.not_false, Bool.not_eq_true, and_self, and_true, true_and, ↓reduceIte, reduceIte, Nat.reduceEqDiff, Nat.succ_ne_self, Nat.reduceAdd, Nat.reduceMul, Nat.reduceSub, Nat.reduceBEq, Nat.reduceLT, Nat.reduceLeDiff, Int.cast_ofNat_Int, Int.reduceToNat, Int.reduceLT, Int.reduceLE, Int.reduceGE, Int.reduceGT, Int.reduceEq, Int.reduceNe, Int.reduceAdd, Int.reduceSub, Int.reduceNeg, decide_true, decide_false, Int.toNat_natCast, reduceCtorEq, List.nil_append, List.cons_append, AV.boxy, AV.cells, List.length_cons, List.length_nil, Nat.beq_refl, AOp.cl, ↓OW_guard, ↓DW_guard, KDW_0, KDW_1, KDW_2, OWskip_eq, DWskip_eq, fillA, setAt, DChk, DAt, stepA, ble_dec, beq_dec, Bool.and_self, Bool.and_true, Bool.true_and, Bool.and_false, Bool.false_and, List.take_succ_cons, List.take_zero, List.drop_succ_cons, List.drop_zero, List.take_nil, List.drop_nil, List.append_nil, eqAV, eqAVL, BEq.rfl, eqA, eqD, sameS, Option.map, Option.isNone, addrA, wrap64, gt_iff_lt, ge_iff_le, Int.lt_irrefl, Int.le_refl]
              refine ⟨m - 1, by omega, i + 1, by omega, s, x, v, urg, sid', ?_⟩
              simp -implicitDefEqProofs only [f1, f5, f6, f7, f8, f10, f11, ↓WP_seq, ↓WP_skip, ↓WP_region, ↓WP_dregion, ↓WP_cond, ↓WP_block, ↓WP_exit, ↓WP_ret, ↓OW_nil, ↓OW_cons, ↓DW_nil, ↓DW_cons, ↓XW_call, XW, exA, KO_eq, KD_eq, OptK_some, EvK_some, GW2_true, GW2_false, KS_normal, KS_ret, KS_exit, KB_normal, KB_ret, KB_exit, CP2_bool, RP_ret, RP_normal, putA_some, putA_none, ev_t, ev_c, evs, evo, wantA, initA, resA, Tr.get_set, vl, chkOk, cond_true, cond_false, Nat.add_zero, Nat.mul_one, Nat.one_mul, Nat.zero_add, Nat.zero_mul, aggOf, pInt, binA, unA, intA, beq_true, beq_false, Bool.not_true, Bool.not_false, Bool.not_eq_true, and_self, and_true, true_and, ↓reduceIte, reduceIte, Nat.reduceEqDiff, Nat.succ_ne_self, Nat.reduceAdd, Nat.reduceMul, Nat.reduceSub, Nat.reduceBEq, Nat.reduceLT, Nat.reduceLeDiff, Int.cast_ofNat_Int, Int.reduceToNat, Int.reduceLT, Int.reduceLE, Int.reduceGE, Int.reduceGT, Int.reduceEq, Int.reduceNe, Int.reduceAdd, Int.reduceSub, Int.reduceNeg, decide_true, decide_false, Int.toNat_natCast, reduceCtorEq, List.nil_append, List.cons_append, AV.boxy, AV.cells, List.length_cons, List.length_nil, Nat.beq_refl, AOp.cl, ↓OW_guard, ↓DW_guard, KDW_0, KDW_1, KDW_2, OWskip_eq, DWskip_eq, fillA, setAt, DChk, DAt, stepA, ble_dec, beq_dec, Bool.and_self, Bool.and_true, Bool.true_and, Bool.and_false, Bool.false_and, List.take_succ_cons, List.take_zero, List.drop_succ_cons, List.drop_zero, List.take_nil, List.drop_nil, List.append_nil, eqAV, eqAVL, BEq.rfl, eqA, eqD, sameS, Option.map, Option.isNone, addrA, wrap64, gt_iff_lt, ge_iff_le, Int.lt_irrefl, Int.le_refl]
            · have q0 : (((2 : Nat) : Int) == 0) = false := rfl
              have q1 : (((2 : Nat) : Int) == 1) = false := rfl
              have q2 : (((2 : Nat) : Int) == 2) = true := rfl
              cases e5 : s.r 5 with
              | nil =>
                obtain ⟨ix, clx, evx, -⟩ := wt
                rw [e5] at evx
                have f10' := f10
                rw [evx] at f10'
                simp -implicitDefEqProofs only [f1, f5, f6, f7, f8, f10', f11, f12, hi1', hi0, lk, h3v, hk, hw, iv, Bool.false_eq_true, hck, q0, q1, q2, List.length_nil, ↓WP_seq, ↓WP_skip, ↓WP_region, ↓WP_dregion, ↓WP_cond, ↓WP_block, ↓WP_exit, ↓WP_ret, ↓OW_nil, ↓OW_cons, ↓DW_nil, ↓DW_cons, ↓XW_call, XW, exA, KO_eq, KD_eq, OptK_some, EvK_some, GW2_true, GW2_false, KS_normal, KS_ret, KS_exit, KB_normal, KB_ret, KB_exit, CP2_bool, RP_ret, RP_normal, putA_some, putA_none, ev_t, ev_c, evs, evo, wantA, initA, resA, Tr.get_set, vl, chkOk, cond_true, cond_false, Nat.add_zero, Nat.mul_one, Nat.one_mul, Nat.zero_add, Nat.zero_mul, aggOf, pInt, binA, unA, intA, beq_true, beq_false, Bool.not_true, Bool.not_false, Bool.not_eq_true, and_self, and_true, true_and, ↓reduceIte, reduceIte, Nat.reduceEqDiff, Nat.succ_ne_self, Nat.reduceAdd, Nat.reduceMul, Nat.reduceSub, Nat.reduceBEq, Nat.reduceLT, Nat.reduceLeDiff, Int.cast_ofNat_Int, Int.reduceToNat, Int.reduceLT, Int.reduceLE, Int.reduceGE, Int.reduceGT, Int.reduceEq, Int.reduceNe, Int.reduceAdd, Int.reduceSub, Int.reduceNeg, decide_true, decide_false, Int.toNat_natCast, reduceCtorEq, List.nil_append, List.cons_append, AV.boxy, AV.cells, List.length_cons, List.length_nil, Nat.beq_refl, AOp.cl, ↓OW_guard, ↓DW_guard, KDW_0, KDW_1, KDW_2, OWskip_eq, DWskip_eq, fillA, setAt, DChk, DAt, stepA, ble_dec, beq_dec, Bool.and_self, Bool.and_true, Bool.true_and, Bool.and_false, Bool.false_and, List.take_succ_cons, List.take_zero, List.drop_succ_cons, List.drop_zero, List.take_nil, List.drop_nil, List.append_nil, eqAV, eqAVL, BEq.rfl, eqA, eqD, sameS, Option.map, Option.isNone, addrA, wrap64, gt_iff_lt, ge_iff_le, Int.lt_irrefl, Int.le_refl]
                refine ⟨m - 1, by omega, i + 1, by omega, s, x, v, urg, sid', ?_⟩
                simp -implicitDefEqProofs only [f1, f5, f6, f7, f8, f10, f11, ↓WP_seq, ↓WP_skip, ↓WP_region, ↓WP_dregion, ↓WP_cond, ↓WP_block, ↓WP_exit, ↓WP_ret, ↓OW_nil, ↓OW_cons, ↓DW_nil, ↓DW_cons, ↓XW_call, XW, exA, KO_eq, KD_eq, OptK_some, EvK_some, GW2_true, GW2_false, KS_normal, KS_ret, KS_exit, KB_normal, KB_ret, KB_exit, CP2_bool, RP_ret, RP_normal, putA_some, putA_none, ev_t, ev_c, evs, evo, wantA, initA, resA, Tr.get_set, vl, chkOk, cond_true, cond_false, Nat.add_zero, Nat.mul_one, Nat.one_mul, Nat.zero_add, Nat.zero_mul, aggOf, pInt, binA, unA, intA, beq_true, beq_false, Bool.not_true, Bool.not_false, Bool.not_eq_true, and_self, and_true, true_and, ↓reduceIte, reduceIte, Nat.reduceEqDiff, Nat.succ_ne_self, Nat.reduceAdd, Nat.reduceMul, Nat.reduceSub, Nat.reduceBEq, Nat.reduceLT, Nat.reduceLeDiff, Int.cast_ofNat_Int, Int.reduceToNat, Int.reduceLT, Int.reduceLE, Int.reduceGE, Int.reduceGT, Int.reduceEq, Int.reduceNe, Int.reduceAdd, Int.reduceSub, Int.reduceNeg, decide_true, decide_false, Int.toNat_natCast, reduceCtorEq, List.nil_append, List.cons_append, AV.boxy, AV.cells, List.length_cons, List.length_nil, Nat.beq_refl, AOp.cl, ↓OW_guard, ↓DW_guard, KDW_0, KDW_1, KDW_2, OWskip_eq, DWskip_eq, fillA, setAt, DChk, DAt, stepA, ble_dec, beq_dec, Bool.and_self, Bool.and_true, Bool.true_and, Bool.and_false, Bool.false_and, List.take_succ_cons, List.take_zero, List.drop_succ_cons, List.drop_zero, List.take_nil, List.drop_nil, List.append_nil, eqAV, eqAVL, BEq.rfl, eqA, eqD, sameS, Option.map, Option.isNone, addrA, wrap64, gt_iff_lt, ge_iff_le, Int.lt_irrefl, Int.le_refl]
              | cons w t =>
                obtain ⟨hvp, urg2, hr5', hlv2⟩ := urg.post e5
                have wt' := wt
                rw [e5] at wt'
                obtain ⟨ix, clx, evx, ldx, -⟩ := Sw.tail wt'
                have f10' := f10
                rw [evx] at f10'
                have hw5 : w ∈ s.r 5 := by rw [e5]; exact List.mem_cons_self ..
                have hw6 := urg.inv.inn w (urg.inv.memr (i := 5) (by omega) hw5)
                have hw0 : (0 : Int) ≤ (w : Int) := by omega
                have hw6' : (w : Int) < 6 := by omega
                have hlpos : ((0 : Int) < ((t.length + 1 : Nat) : Int)) = True := by simp
                have hl1t : ((1 : Int) ≤ ((t.length + 1 : Nat) : Int)) = True := by simp; omega
                simp -implicitDefEqProofs only [f1, f5, f6, f7, f8, f10', f11, f12, hi1', hi0, lk, h3v, hk, hw, iv, Bool.false_eq_true, hck, q0, q1, q2, hlpos, ldx, ↓WP_seq, ↓WP_skip, ↓WP_region, ↓WP_dregion, ↓WP_cond, ↓WP_block, ↓WP_exit, ↓WP_ret, ↓OW_nil, ↓OW_cons, ↓DW_nil, ↓DW_cons, ↓XW_call, XW, exA, KO_eq, KD_eq, OptK_some, EvK_some, GW2_true, GW2_false, KS_normal, KS_ret, KS_exit, KB_normal, KB_ret, KB_exit, CP2_bool, RP_ret, RP_normal, putA_some, putA_none, ev_t, ev_c, evs, evo, wantA, initA, resA, Tr.get_set, vl, chkOk, cond_true, cond_false, Nat.add_zero, Nat.mul_one, Nat.one_mul, Nat.zero_add, Nat.zero_mul, aggOf, pInt, binA, unA, intA, beq_true, beq_false, Bool.not_true, Bool.not_false, Bool.not_eq_true, and_self, and_true, true_and, ↓reduceIte, reduceIte, Nat.reduceEqDiff, Nat.succ_ne_self, Nat.reduceAdd, Nat.reduceMul, Nat.reduceSub, Nat.reduceBEq, Nat.reduceLT, Nat.reduceLeDiff, Int.cast_ofNat_Int, Int.reduceToNat, Int.reduceLT, Int.reduceLE, Int.reduceGE, Int.reduceGT, Int.reduceEq, Int.reduceNe, Int.reduceAdd, Int.reduceSub, Int.reduceNeg, decide_true, decide_false, Int.toNat_natCast, reduceCtorEq, List.nil_append, List.cons_append, AV.boxy, AV.cells, List.length_cons, List.length_nil, Nat.beq_refl, AOp.cl, ↓OW_guard, ↓DW_guard, KDW_0, KDW_1, KDW_2, OWskip_eq, DWskip_eq, fillA, setAt, DChk, DAt, stepA, ble_dec, beq_dec, Bool.and_self, Bool.and_true, Bool.true_and, Bool.and_false, Bool.false_and, List.take_succ_cons, List.take_zero, List.drop_succ_cons, List.drop_zero, List.take_nil, List.drop_nil, List.append_nil, eqAV, eqAVL, BEq.rfl, eqA, eqD, sameS, Option.map, Option.isNone, addrA, wrap64, gt_iff_lt, ge_iff_le, Int.lt_irrefl, Int.le_refl]
                refine CW.mono (c_Post hq urg.inv 1) ?_
                rintro u H4 ⟨rfl, hg⟩
                obtain ⟨solo4, k4⟩ := nq _ _ hg
                have hn4 := hg.2.1
                obtain ⟨ch4, ⟨fl4, bl4, hfl4⟩, ⟨fa4, ba4, hfa4⟩, wt4⟩ := sid'.move hn4 solo4 k4
                rw [e5] at wt4
                obtain ⟨ix2, clx2, evx2, ldx2, wt42⟩ := Sw.tail wt4
                rw [evx] at evx2
                injection evx2 with ea _ _ ecl
                injection ea with ea2
                injection ea2 with _ ei
                subst ei; subst ecl
                obtain ⟨H5, st5, ba5, n5, k5⟩ := ba4.store (i := w) hw6 (.bool false)
                have wt5 := wt42.keep (H' := H5) (by omega) (k5 x (Ne.symm hne.2.2.1))
                simp -implicitDefEqProofs only [f1, f5, f6, f7, f8, f10', f11, f12, hi1', hi0, lk, h3v, hk, hw, iv, Bool.false_eq_true, hck, q0, q1, q2, hlpos, hl1t, ldx, ldx2, hvp, st5, hw0, hw6', slA, boundA, Option.isSome, Nat.add_sub_cancel, bne_self_eq_false, ↓WP_seq, ↓WP_skip, ↓WP_region, ↓WP_dregion, ↓WP_cond, ↓WP_block, ↓WP_exit, ↓WP_ret, ↓OW_nil, ↓OW_cons, ↓DW_nil, ↓DW_cons, ↓XW_call, XW, exA, KO_eq, KD_eq, OptK_some, EvK_some, GW2_true, GW2_false, KS_normal, KS_ret, KS_exit, KB_normal, KB_ret, KB_exit, CP2_bool, RP_ret, RP_normal, putA_some, putA_none, ev_t, ev_c, evs, evo, wantA, initA, resA, Tr.get_set, vl, chkOk, cond_true, cond_false, Nat.add_zero, Nat.mul_one, Nat.one_mul, Nat.zero_add, Nat.zero_mul, aggOf, pInt, binA, unA, intA, beq_true, beq_false, Bool.not_true, Bool.not_false, Bool.not_eq_true, and_self, and_true, true_and, ↓reduceIte, reduceIte, Nat.reduceEqDiff, Nat.succ_ne_self, Nat.reduceAdd, Nat.reduceMul, Nat.reduceSub, Nat.reduceBEq, Nat.reduceLT, Nat.reduceLeDiff, Int.cast_ofNat_Int, Int.reduceToNat, Int.reduceLT, Int.reduceLE, Int.reduceGE, Int.reduceGT, Int.reduceEq, Int.reduceNe, Int.reduceAdd, Int.reduceSub, Int.reduceNeg, decide_true, decide_false, Int.toNat_natCast, reduceCtorEq, List.nil_append, List.cons_append, AV.boxy, AV.cells, List.length_cons, List.length_nil, Nat.beq_refl, AOp.cl, ↓OW_guard, ↓DW_guard, KDW_0, KDW_1, KDW_2, OWskip_eq, DWskip_eq, fillA, setAt, DChk, DAt, stepA, ble_dec, beq_dec, Bool.and_self, Bool.and_true, Bool.true_and, Bool.and_false, Bool.false_and, List.take_succ_cons, List.take_zero, List.drop_succ_cons, List.drop_zero, List.take_nil, List.drop_nil, List.append_nil, eqAV, eqAVL, BEq.rfl, eqA, eqD, sameS, Option.map, Option.isNone, addrA, wrap64, gt_iff_lt, ge_iff_le, Int.lt_irrefl, Int.le_refl]
                have hK : ∀ y, (y < H.next ∨ y = H.next + 1 ∨ y = H.next + 2 ∨ y = x) → y < H4.next := by
                  obtain ⟨fx, Dx, -, hx⟩ := solo4
                  exact fun y hy => (hx y hy).1
                have hc4 := ch4.1
                obtain ⟨hn1, hn2, hn3, hn4', hn5, hn6'⟩ := hne
                have hnd : w ∉ t := by
                  intro hwt
                  have h1 := urg.inv.le1 w
                  have h2 : (s.r 5).count w = t.count w + 1 := by rw [e5, List.count_cons_self]
                  have h3 := count_pos hwt
                  unfold cnt at h1
                  omega
                refine ⟨m - 1, by omega, i + 1, by omega, mPost s 1, x, .slice (some (x, ix + 1)) 1 t.length clx, urg2, ⟨?_, ⟨by omega, fun y hy => ?_⟩, ⟨fl4, bl4.keep' (by omega) (k5 _ hn1), fun z hz => by rw [hlv2]; exact hfl4 z hz⟩, ⟨_, ba5, fun z hz => ?_⟩, ?_, ⟨hn1, hn2, hn3, hn4', hn5, hn6'⟩⟩, ?_⟩
                · exact solo4.step (by omega) (fun y hy hn => k5 y fun e => hn (.inr (.inr (.inl e)))) fun y hy => ⟨by have := hK y hy; omega, .inl hy⟩
                · have e : H5.get y = H.get y := by rw [k5 y (by omega), ch4.keep hy (by simp)]
                  exact ⟨.inl e, fun _ => e⟩
                · rw [hr5']
                  by_cases e : z = w
                  · subst e; rw [upd_same]; simp [hnd]
                  · rw [upd_ne e, hfa4 z hz, e5]; simp [e]
                · rw [hr5']
                  exact wt5
                · simp -implicitDefEqProofs only [f1, f5, f6, f7, f8, f10, f11, ↓WP_seq, ↓WP_skip, ↓WP_region, ↓WP_dregion, ↓WP_cond, ↓WP_block, ↓WP_exit, ↓WP_ret, ↓OW_nil, ↓OW_cons, ↓DW_nil, ↓DW_cons, ↓XW_call, XW, exA, KO_eq, KD_eq, OptK_some, EvK_some, GW2_true, GW2_false, KS_normal, KS_ret, KS_exit, KB_normal, KB_ret, KB_exit, CP2_bool, RP_ret, RP_normal, putA_some, putA_none, ev_t, ev_c, evs, evo, wantA, initA, resA, Tr.get_set, vl, chkOk, cond_true, cond_false, Nat.add_zero, Nat.mul_one, Nat.one_mul, Nat.zero_add, Nat.zero_mul, aggOf, pInt, binA, unA, intA, beq_true, beq_false, Bool.not_true, Bool.not_false, Bool.not_eq_true, and_self, and_true, true_and, ↓reduceIte, reduceIte, Nat.reduceEqDiff, Nat.succ_ne_self, Nat.reduceAdd, Nat.reduceMul, Nat.reduceSub, Nat.reduceBEq, Nat.reduceLT, Nat.reduceLeDiff, Int.cast_ofNat_Int, Int.reduceToNat, Int.reduceLT, Int.reduceLE, Int.reduceGE, Int.reduceGT, Int.reduceEq, Int.reduceNe, Int.reduceAdd, Int.reduceSub, Int.reduceNeg, decide_true, decide_false, Int.toNat_natCast, reduceCtorEq, List.nil_append, List.cons_append, AV.boxy, AV.cells, List.length_cons, List.length_nil, Nat.beq_refl, AOp.cl, ↓OW_guard, ↓DW_guard, KDW_0, KDW_1, KDW_2, OWskip_eq, DWskip_eq, fillA, setAt, DChk, DAt, stepA, ble_dec, beq_dec, Bool.and_self, Bool.and_true, Bool.true_and, Bool.and_false, Bool.false_and, List.take_succ_cons, List.take_zero, List.drop_succ_cons, List.drop_zero, List.take_nil, List.drop_nil, List.append_nil, eqAV, eqAVL, BEq.rfl, eqA, eqD, sameS, Option.map, Option.isNone, addrA, wrap64, gt_iff_lt, ge_iff_le, Int.lt_irrefl, Int.le_refl]
            · have q0 : (((3 : Nat) : Int) == 0) = false := rfl
              have q1 : (((3 : Nat) : Int) == 1) = false := rfl
              have q2 : (((3 : Nat) : Int) == 2) = false := rfl
              obtain ⟨urg2, hr5', hlv2⟩ := urg.turn
              simp -implicitDefEqProofs only [f1, f5, f6, f7, f8, f10, f11, f12, hi1', hi0, lk, h3v, hk, hw, iv, Bool.false_eq_true, hck, q0, q1, q2, ↓WP_seq, ↓WP_skip, ↓WP_region, ↓WP_dregion, ↓WP_cond, ↓WP_block, ↓WP_exit, ↓WP_ret, ↓OW_nil, ↓OW_cons, ↓DW_nil, ↓DW_cons, ↓XW_call, XW, exA, KO_eq, KD_eq, OptK_some, EvK_some, GW2_true, GW2_false, KS_normal, KS_ret, KS_exit, KB_normal, KB_ret, KB_exit, CP2_bool, RP_ret, RP_normal, putA_some, putA_none, ev_t, ev_c, evs, evo, wantA, initA, resA, Tr.get_set, vl, chkOk, cond_true, cond_false, Nat.add_zero, Nat.mul_one, Nat.one_mul, Nat.zero_add, Nat.zero_mul, aggOf, pInt, binA, unA, intA, beq_true, beq_false, Bool.not_true, Bool.not_false, Bool.not_eq_true, and_self, and_true, true_and, ↓reduceIte, reduceIte, Nat.reduceEqDiff, Nat.succ_ne_self, Nat.reduceAdd, Nat.reduceMul, Nat.reduceSub, Nat.reduceBEq, Nat.reduceLT, Nat.reduceLeDiff, Int.cast_ofNat_Int, Int.reduceToNat, Int.reduceLT, Int.reduceLE, Int.reduceGE, Int.reduceGT, Int.reduceEq, Int.reduceNe, Int.reduceAdd, Int.reduceSub, Int.reduceNeg, decide_true, decide_false, Int.toNat_natCast, reduceCtorEq, List.nil_append, List.cons_append, AV.boxy, AV.cells, List.length_cons, List.length_nil, Nat.beq_refl, AOp.cl, ↓OW_guard, ↓DW_guard, KDW_0, KDW_1, KDW_2, OWskip_eq, DWskip_eq, fillA, setAt, DChk, DAt, stepA, ble_dec, beq_dec, Bool.and_self, Bool.and_true, Bool.true_and, Bool.and_false, Bool.false_and, List.take_succ_cons, List.take_zero, List.drop_succ_cons, List.drop_zero, List.take_nil, List.drop_nil, List.append_nil, eqAV, eqAVL, BEq.rfl, eqA, eqD, sameS, Option.map, Option.isNone, addrA, wrap64, gt_iff_lt, ge_iff_le, Int.lt_irrefl, Int.le_refl]
              refine CW.mono (c_Turn hq urg.inv) ?_
              rintro u H4 ⟨rfl, hg⟩
              obtain ⟨solo4, k4⟩ := nq _ _ hg
              have hn4 := hg.2.1
              obtain ⟨ch4, ⟨fl4, bl4, hfl4⟩, ⟨fa4, ba4, hfa4⟩, wt4⟩ := sid'.move hn4 solo4 k4
              simp -implicitDefEqProofs only [f1, f5, f6, f7, f8, f10, f11, f12, hi1', hi0, lk, h3v, hk, hw, iv, Bool.false_eq_true, hck, q0, q1, q2, ↓WP_seq, ↓WP_skip, ↓WP_region, ↓WP_dregion, ↓WP_cond, ↓WP_block, ↓WP_exit, ↓WP_ret, ↓OW_nil, ↓OW_cons, ↓DW_nil, ↓DW_cons, ↓XW_call, XW, exA, KO_eq, KD_eq, OptK_some, EvK_some, GW2_true, GW2_false, KS_normal, KS_ret, KS_exit, KB_normal, KB_ret, KB_exit, CP2_bool, RP_ret, RP_normal, putA_some, putA_none, ev_t, ev_c, evs, evo, wantA, initA, resA, Tr.get_set, vl, chkOk, cond_true, cond_false, Nat.add_zero, Nat.mul_one, Nat.one_mul, Nat.zero_add, Nat.zero_mul, aggOf, pInt, binA, unA, intA, beq_true, beq_false, Bool.not_true, Bool.not_false, Bool.not_eq_true, and_self, and_true, true_and, ↓reduceIte, reduceIte, Nat.reduceEqDiff, Nat.succ_ne_self, Nat.reduceAdd, Nat.reduceMul, Nat.reduceSub, Nat.reduceBEq, Nat.reduceLT, Nat.reduceLeDiff, Int.cast_ofNat_Int, Int.reduceToNat, Int.reduceLT, Int.reduceLE, Int.reduceGE, Int.reduceGT, Int.reduceEq, Int.reduceNe, Int.reduceAdd, Int.reduceSub, Int.reduceNeg, decide_true, decide_false, Int.toNat_natCast, reduceCtorEq, List.nil_append, List.cons_append, AV.boxy, AV.cells, List.length_cons, List.length_nil, Nat.beq_refl, AOp.cl, ↓OW_guard, ↓DW_guard, KDW_0, KDW_1, KDW_2, OWskip_eq, DWskip_eq, fillA, setAt, DChk, DAt, stepA, ble_dec, beq_dec, Bool.and_self, Bool.and_true, Bool.true_and, Bool.and_false, Bool.false_and, List.take_succ_cons, List.take_zero, List.drop_succ_cons, List.drop_zero, List.take_nil, List.drop_nil, List.append_nil, eqAV, eqAVL, BEq.rfl, eqA, eqD, sameS, Option.map, Option.isNone, addrA, wrap64, gt_iff_lt, ge_iff_le, Int.lt_irrefl, Int.le_refl]
              refine ⟨m - 1, by omega, i + 1, by omega, mTurn s, x, v, urg2, ⟨solo4, ch4, ⟨fl4, bl4, fun z hz => by rw [hlv2]; exact hfl4 z hz⟩, ⟨fa4, ba4, fun z hz => by rw [hr5']; exact hfa4 z hz⟩, by rw [hr5']; exact wt4, hne⟩, ?_⟩
              simp -implicitDefEqProofs only [f1, f5, f6, f7, f8, f10, f11, ↓WP_seq, ↓WP_skip, ↓WP_region, ↓WP_dregion, ↓WP_cond, ↓WP_block, ↓WP_exit, ↓WP_ret, ↓OW_nil, ↓OW_cons, ↓DW_nil, ↓DW_cons, ↓XW_call, XW, exA, KO_eq, KD_eq, OptK_some, EvK_some, GW2_true, GW2_false, KS_normal, KS_ret, KS_exit, KB_normal, KB_ret, KB_exit, CP2_bool, RP_ret, RP_normal, putA_some, putA_none, ev_t, ev_c, evs, evo, wantA, initA, resA, Tr.get_set, vl, chkOk, cond_true, cond_false, Nat.add_zero, Nat.mul_one, Nat.one_mul, Nat.zero_add, Nat.zero_mul, aggOf, pInt, binA, unA, intA, beq_true, beq_false, Bool.not_true, Bool.not_false, Bool.not_eq_true, and_self, and_true, true_and, ↓reduceIte, reduceIte, Nat.reduceEqDiff, Nat.succ_ne_self, Nat.reduceAdd, Nat.reduceMul, Nat.reduceSub, Nat.reduceBEq, Nat.reduceLT, Nat.reduceLeDiff, Int.cast_ofNat_Int, Int.reduceToNat, Int.reduceLT, Int.reduceLE, Int.reduceGE, Int.reduceGT, Int.reduceEq, Int.reduceNe, Int.reduceAdd, Int.reduceSub, Int.reduceNeg, decide_true, decide_false, Int.toNat_natCast, reduceCtorEq, List.nil_append, List.cons_append, AV.boxy, AV.cells, List.length_cons, List.length_nil, Nat.beq_refl, AOp.cl, ↓OW_guard, ↓DW_guard, KDW_0, KDW_1, KDW_2, OWskip_eq, DWskip_eq, fillA, setAt, DChk, DAt, stepA, ble_dec, beq_dec, Bool.and_self, Bool.and_true, Bool.true_and, Bool.and_false, Bool.false_and, List.take_succ_cons, List.take_zero, List.drop_succ_cons, List.drop_zero, List.take_nil, List.drop_nil, List.append_nil, eqAV, eqAVL, BEq.rfl, eqA, eqD, sameS, Option.map, Option.isNone, addrA, wrap64, gt_iff_lt, ge_iff_le, Int.lt_irrefl, Int.le_refl]
          | some ff =>
            rw [hff] at f12
            simp only [optI] at f12
            obtain ⟨hfn, hf5, hf6⟩ := urg.run hff
            have hck : ¬ (n : Int) ≤ (ff : Int) := by omega
            have hpos : (0 : Int) ≤ (ff : Int) := by omega
            have hck2 : (0 : Int) ≤ (ff : Int) := hpos
            have hck3 : (ff : Int) < 6 := by omega
            have la0 := ba.load (i := ff) hf6
            rw [hfa ff hf6, show decide (ff ∈ s.r 5) = false by simpa using hf5] at la0
            rcases (show k = 0 ∨ k = 1 ∨ k = 2 ∨ k = 3 by omega) with rfl | rfl | rfl | rfl
            · have q0 : (((0 : Nat) : Int) == 0) = true := rfl
              have q1 : (((0 : Nat) : Int) == 1) = false := rfl
              obtain ⟨hok, urg2, hr5', hlv2⟩ := urg.wait hff
              simp -implicitDefEqProofs only [f1, f5, f6, f7, f8, f10, f11, f12, hi1', hi0, lk, h3v, hk, hw, iv, Bool.false_eq_true, hck, hck2, hck3, la0, q0, q1, hpos, ↓WP_seq, ↓WP_skip, ↓WP_region, ↓WP_dregion, ↓WP_cond, ↓WP_block, ↓WP_exit, ↓WP_ret, ↓OW_nil, ↓OW_cons, ↓DW_nil, ↓DW_cons, ↓XW_call, XW, exA, KO_eq, KD_eq, OptK_some, EvK_some, GW2_true, GW2_false, KS_normal, KS_ret, KS_exit, KB_normal, KB_ret, KB_exit, CP2_bool, RP_ret, RP_normal, putA_some, putA_none, ev_t, ev_c, evs, evo, wantA, initA, resA, Tr.get_set, vl, chkOk, cond_true, cond_false, Nat.add_zero, Nat.mul_one, Nat.one_mul, Nat.zero_add, Nat.zero_mul, aggOf, pInt, binA, unA, intA, beq_true, beq_false, Bool.not_true, Bool.not_false, Bool.not_eq_true, and_self, and_true, true_and, ↓reduceIte, reduceIte, Nat.reduceEqDiff, Nat.succ_ne_self, Nat.reduceAdd, Nat.reduceMul, Nat.reduceSub, Nat.reduceBEq, Nat.reduceLT, Nat.reduceLeDiff, Int.cast_ofNat_Int, Int.reduceToNat, Int.reduceLT, Int.reduceLE, Int.reduceGE, Int.reduceGT, Int.reduceEq, Int.reduceNe, Int.reduceAdd, Int.reduceSub, Int.reduceNeg, decide_true, decide_false, Int.toNat_natCast, reduceCtorEq, List.nil_append, List.cons_append, AV.boxy, AV.cells, List.length_cons, List.length_nil, Nat.beq_refl, AOp.cl, ↓OW_guard, ↓DW_guard, KDW_0, KDW_1, KDW_2, OWskip_eq, DWskip_eq, fillA, setAt, DChk, DAt, stepA, ble_dec, beq_dec, Bool.and_self, Bool.and_true, Bool.true_and, Bool.and_false, Bool.false_and, List.take_succ_cons, List.take_zero, List.drop_succ_cons, List.drop_zero, List.take_nil, List.drop_nil, List.append_nil, eqAV, eqAVL, BEq.rfl, eqA, eqD, sameS, Option.map, Option.isNone, addrA, wrap64, gt_iff_lt, ge_iff_le, Int.lt_irrefl, Int.le_refl]
              refine CW.mono (c_Wait hq urg.inv 1) ?_
              rintro u H4 ⟨rfl, hg⟩
              obtain ⟨solo4, k4⟩ := nq _ _ hg
              have hn4 := hg.2.1
              obtain ⟨ch4, ⟨fl4, bl4, hfl4⟩, ⟨fa4, ba4, hfa4⟩, wt4⟩ := sid'.move hn4 solo4 k4
              obtain ⟨H5, st5, ba5, n5, k5⟩ := ba4.store (i := ff) hf6 (.bool true)
              have wt5 := wt4.keep (H' := H5) (by omega) (k5 x (Ne.symm hne.2.2.1))
              have hlen5 := urg.inv.lenr (i := 5) (by omega)
              obtain ⟨H6, ap, n6, k6, wt6⟩ := wt5.push (.int .i64 ff) (by omega)
              simp -implicitDefEqProofs only [f1, f5, f6, f7, f8, f10, f11, f12, hi1', hi0, lk, h3v, hk, hw, iv, Bool.false_eq_true, hck, hck2, hck3, la0, q0, q1, hpos, hok, st5, ap, ↓WP_seq, ↓WP_skip, ↓WP_region, ↓WP_dregion, ↓WP_cond, ↓WP_block, ↓WP_exit, ↓WP_ret, ↓OW_nil, ↓OW_cons, ↓DW_nil, ↓DW_cons, ↓XW_call, XW, exA, KO_eq, KD_eq, OptK_some, EvK_some, GW2_true, GW2_false, KS_normal, KS_ret, KS_exit, KB_normal, KB_ret, KB_exit, CP2_bool, RP_ret, RP_normal, putA_some, putA_none, ev_t, ev_c, evs, evo, wantA, initA, resA, Tr.get_set, vl, chkOk, cond_true, cond_false, Nat.add_zero, Nat.mul_one, Nat.one_mul, Nat.zero_add, Nat.zero_mul, aggOf, pInt, binA, unA, intA, beq_true, beq_false, Bool.not_true, Bool.not_false, Bool.not_eq_true, and_self, and_true, true_and, ↓reduceIte, reduceIte, Nat.reduceEqDiff, Nat.succ_ne_self, Nat.reduceAdd, Nat.reduceMul, Nat.reduceSub, Nat.reduceBEq, Nat.reduceLT, Nat.reduceLeDiff, Int.cast_ofNat_Int, Int.reduceToNat, Int.reduceLT, Int.reduceLE, Int.reduceGE, Int.reduceGT, Int.reduceEq, Int.reduceNe, Int.reduceAdd, Int.reduceSub, Int.reduceNeg, decide_true, decide_false, Int.toNat_natCast, reduceCtorEq, List.nil_append, List.cons_append, AV.boxy, AV.cells, List.length_cons, List.length_nil, Nat.beq_refl, AOp.cl, ↓OW_guard, ↓DW_guard, KDW_0, KDW_1, KDW_2, OWskip_eq, DWskip_eq, fillA, setAt, DChk, DAt, stepA, ble_dec, beq_dec, Bool.and_self, Bool.and_true, Bool.true_and, Bool.and_false, Bool.false_and, List.take_succ_cons, List.take_zero, List.drop_succ_cons, List.drop_zero, List.take_nil, List.drop_nil, List.append_nil, eqAV, eqAVL, BEq.rfl, eqA, eqD, sameS, Option.map, Option.isNone, addrA, wrap64, gt_iff_lt, ge_iff_le, Int.lt_irrefl, Int.le_refl]
              have solo5 : Solo (fun y => y < H.next ∨ y = H.next + 1 ∨ y = H.next + 2 ∨ y = x) H5 H.next (mWait s 1) := by
                have hK : ∀ y, (y < H.next ∨ y = H.next + 1 ∨ y = H.next + 2 ∨ y = x) → y < H4.next := by
                  obtain ⟨fx, Dx, -, hx⟩ := solo4
                  exact fun y hy => (hx y hy).1
                exact solo4.step (by omega) (fun y hy hn => k5 y fun e => hn (.inr (.inr (.inl e)))) fun y hy => ⟨by have := hK y hy; omega, .inl hy⟩
              have hK5 : ∀ y, (y < H.next ∨ y = H.next + 1 ∨ y = H.next + 2 ∨ y = x) → y < H5.next := by
                obtain ⟨fx, Dx, -, hx⟩ := solo5
                exact fun y hy => (hx y hy).1
              have hc4 := ch4.1
              obtain ⟨hn1, hn2, hn3, hn4', hn5, hn6'⟩ := hne
              refine ⟨m - 1, by omega, i + 1, by omega, mWait s 1, H5.next + 1, .slice (some (H5.next + 1, 0)) 1 ((s.r 5).length + 1) false, urg2, ⟨?_, ⟨by omega, fun y hy => ?_⟩, ⟨fl4, ?_, fun z hz => by rw [hlv2]; exact hfl4 z hz⟩, ⟨_, ba5.keep' (by omega) (k6 _ (hK5 _ (.inr (.inr (.inl rfl)))) hn3), fun z hz => ?_⟩, ?_, ?_⟩, ?_⟩
              · refine solo5.step (by omega) (fun y hy hn => k6 y hy fun e => hn (.inr (.inr (.inr e)))) fun y hy => ?_
                rcases hy with hy | rfl | rfl | rfl
                · exact ⟨by omega, .inl (.inl hy)⟩
                · exact ⟨by have := hK5 _ (.inr (.inl rfl)); omega, .inl (.inr (.inl rfl))⟩
                · exact ⟨by have := hK5 _ (.inr (.inr (.inl rfl))); omega, .inl (.inr (.inr (.inl rfl)))⟩
                · exact ⟨by omega, .inr (by omega)⟩
              · have e : H6.get y = H.get y := by rw [k6 y (by omega) (by omega), k5 y (by omega), ch4.keep hy (by simp)]
                exact ⟨.inl e, fun _ => e⟩
              · have bl5 : Blk H5 (H.next + 1) 6 fl4 := bl4.keep' (by omega) (k5 _ hn1)
                exact bl5.keep' (by omega) (k6 _ (hK5 _ (.inr (.inl rfl))) hn2)
              · rw [hr5']
                by_cases e : z = ff
                · subst e; rw [upd_same]; simp
                · rw [upd_ne e, hfa4 z hz]; simp [e]
              · rw [hr5', List.length_append]
                have e : nats (s.r 5 ++ [ff]) = nats (s.r 5) ++ [.int .i64 ff] := by simp [nats, iv]
                rw [e]
                exact wt6
              · exact ⟨by omega, by have := hK5 _ (.inr (.inl rfl)); omega, by have := hK5 _ (.inr (.inr (.inl rfl))); omega, by omega, by omega, by omega⟩
              · simp -implicitDefEqProofs only [f1, f5, f6, f7, f8, f10, f11, ↓WP_seq, ↓WP_skip, ↓WP_region, ↓WP_dregion, ↓WP_cond, ↓WP_block, ↓WP_exit, ↓WP_ret, ↓OW_nil, ↓OW_cons, ↓DW_nil, ↓DW_cons, ↓XW_call, XW, exA, KO_eq, KD_eq, OptK_some, EvK_some, GW2_true, GW2_false, KS_normal, KS_ret, KS_exit, KB_normal, KB_ret, KB_exit, CP2_bool, RP_ret, RP_normal, putA_some, putA_none, ev_t, ev_c, evs, evo, wantA, initA, resA, Tr.get_set, vl, chkOk, cond_true, cond_false, Nat.add_zero, Nat.mul_one, Nat.one_mul, Nat.zero_add, Nat.zero_mul, aggOf, pInt, binA, unA, intA, beq_true, beq_false, Bool.not_true, Bool.not_false, Bool.not_eq_true, and_self, and_true, true_and, ↓reduceIte, reduceIte, Nat.reduceEqDiff, Nat.succ_ne_self, Nat.reduceAdd, Nat.reduceMul, Nat.reduceSub, Nat.reduceBEq, Nat.reduceLT, Nat.reduceLeDiff, Int.cast_ofNat_Int, Int.reduceToNat, Int.reduceLT, Int.reduceLE, Int.reduceGE, Int.reduceGT, Int.reduceEq, Int.reduceNe, Int.reduceAdd, Int.reduceSub, Int.reduceNeg, decide_true, decide_false, Int.toNat_natCast, reduceCtorEq, List.nil_append, List.cons_append, AV.boxy, AV.cells, List.length_cons, List.length_nil, Nat.beq_refl, AOp.cl, ↓OW_guard, ↓DW_guard, KDW_0, KDW_1, KDW_2, OWskip_eq, DWskip_eq, fillA, setAt, DChk, DAt, stepA, ble_dec, beq_dec, Bool.and_self, Bool.and_true, Bool.true_and, Bool.and_false, Bool.false_and, List.take_succ_cons, List.take_zero, List.drop_succ_cons, List.drop_zero, List.take_nil, List.drop_nil, List.append_nil, eqAV, eqAVL, BEq.rfl, eqA, eqD, sameS, Option.map, Option.isNone, addrA, wrap64, gt_iff_lt, ge_iff_le, Int.lt_irrefl, Int.le_refl]
            · have q0 : (((1 : Nat) : Int) == 0) = false := rfl
              have q1 : (((1 : Nat) : Int) == 1) = true := rfl
              obtain ⟨hok, urg2, hr5', hlv2⟩ := urg.wait hff
              simp -implicitDefEqProofs only [f1, f5, f6, f7, f8, f10, f11, f12, hi1', hi0, lk, h3v, hk, hw, iv, Bool.false_eq_true, hck, hck2, hck3, la0, q0, q1, hpos, ↓WP_seq, ↓WP_skip, ↓WP_region, ↓WP_dregion, ↓WP_cond, ↓WP_block, ↓WP_exit, ↓WP_ret, ↓OW_nil, ↓OW_cons, ↓DW_nil, ↓DW_cons, ↓XW_call, XW, exA, KO_eq, KD_eq, OptK_some, EvK_some, GW2_true, GW2_false, KS_normal, KS_ret, KS_exit, KB_normal, KB_ret, KB_exit, CP2_bool, RP_ret, RP_normal, putA_some, putA_none, ev_t, ev_c, evs, evo, wantA, initA, resA, Tr.get_set, vl, chkOk, cond_true, cond_false, Nat.add_zero, Nat.mul_one, Nat.one_mul, Nat.zero_add, Nat.zero_mul, aggOf, pInt, binA, unA, intA, beq_true, beq_false, Bool.not_true, Bool.not_false, Bool.not_eq_true, and_self, and_true, true_and, ↓reduceIte, reduceIte, Nat.reduceEqDiff, Nat.succ_ne_self, Nat.reduceAdd, Nat.reduceMul, Nat.reduceSub, Nat.reduceBEq, Nat.reduceLT, Nat.reduceLeDiff, Int.cast_ofNat_Int, Int.reduceToNat, Int.reduceLT, Int.reduceLE, Int.reduceGE, Int.reduceGT, Int.reduceEq, Int.reduceNe, Int.reduceAdd, Int.reduceSub, Int.reduceNeg, decide_true, decide_false, Int.toNat_natCast, reduceCtorEq, List.nil_append, List.cons_append, AV.boxy, AV.cells, List.length_cons, List.length_nil, Nat.beq_refl, AOp.cl, ↓OW_guard, ↓DW_guard, KDW_0, KDW_1, KDW_2, OWskip_eq, DWskip_eq, fillA, setAt, DChk, DAt, stepA, ble_dec, beq_dec, Bool.and_self, Bool.and_true, Bool.true_and, Bool.and_false, Bool.false_and, List.take_succ_cons, List.take_zero, List.drop_succ_cons, List.drop_zero, List.take_nil, List.drop_nil, List.append_nil, eqAV, eqAVL, BEq.rfl, eqA, eqD, sameS, Option.map, Option.isNone, addrA, wrap64, gt_iff_lt, ge_iff_le, Int.lt_irrefl, Int.le_refl]
              refine CW.mono (c_Wait hq urg.inv 1) ?_
              rintro u H4 ⟨rfl, hg⟩
              obtain ⟨solo4, k4⟩ := nq _ _ hg
              have hn4 := hg.2.1
              obtain ⟨ch4, ⟨fl4, bl4, hfl4⟩, ⟨fa4, ba4, hfa4⟩, wt4⟩ := sid'.move hn4 solo4 k4
              obtain ⟨H5, st5, ba5, n5, k5⟩ := ba4.store (i := ff) hf6 (.bool true)
              have wt5 := wt4.keep (H' := H5) (by omega) (k5 x (Ne.symm hne.2.2.1))
              have hlen5 := urg.inv.lenr (i := 5) (by omega)
              obtain ⟨H6, ap, n6, k6, wt6⟩ := wt5.push (.int .i64 ff) (by omega)
              simp -implicitDefEqProofs only [f1, f5, f6, f7, f8, f10, f11, f12, hi1', hi0, lk, h3v, hk, hw, iv, Bool.false_eq_true, hck, hck2, hck3, la0, q0, q1, hpos, hok, st5, ap, ↓WP_seq, ↓WP_skip, ↓WP_region, ↓WP_dregion, ↓WP_cond, ↓WP_block, ↓WP_exit, ↓WP_ret, ↓OW_nil, ↓OW_cons, ↓DW_nil, ↓DW_cons, ↓XW_call, XW, exA, KO_eq, KD_eq, OptK_some, EvK_some, GW2_true, GW2_false, KS_normal, KS_ret, KS_exit, KB_normal, KB_ret, KB_exit, CP2_bool, RP_ret, RP_normal, putA_some, putA_none, ev_t, ev_c, evs, evo, wantA, initA, resA, Tr.get_set, vl, chkOk, cond_true, cond_false, Nat.add_zero, Nat.mul_one, Nat.one_mul, Nat.zero_add, Nat.zero_mul, aggOf, pInt, binA, unA, intA, beq_true, beq_false, Bool.not_true, Bool.not_false, Bool.not_eq_true, and_self, and_true, true_and, ↓reduceIte, reduceIte, Nat.reduceEqDiff, Nat.succ_ne_self, Nat.reduceAdd, Nat.reduceMul, Nat.reduceSub, Nat.reduceBEq, Nat.reduceLT, Nat.reduceLeDiff, Int.cast_ofNat_Int, Int.reduceToNat, Int.reduceLT, Int.reduceLE, Int.reduceGE, Int.reduceGT, Int.reduceEq, Int.reduceNe, Int.reduceAdd, Int.reduceSub, Int.reduceNeg, decide_true, decide_false, Int.toNat_natCast, reduceCtorEq, List.nil_append, List.cons_append, AV.boxy, AV.cells, List.length_cons, List.length_nil, Nat.beq_refl, AOp.cl, ↓OW_guard, ↓DW_guard, KDW_0, KDW_1, KDW_2, OWskip_eq, DWskip_eq, fillA, setAt, DChk, DAt, stepA, ble_dec, beq_dec, Bool.and_self, Bool.and_true, Bool.true_and, Bool.and_false, Bool.false_and, List.take_succ_cons, List.take_zero, List.drop_succ_cons, List.drop_zero, List.take_nil, List.drop_nil, List.append_nil, eqAV, eqAVL, BEq.rfl, eqA, eqD, sameS, Option.map, Option.isNone, addrA, wrap64, gt_iff_lt, ge_iff_le, Int.lt_irrefl, Int.le_refl]
              have solo5 : Solo (fun y => y < H.next ∨ y = H.next + 1 ∨ y = H.next + 2 ∨ y = x) H5 H.next (mWait s 1) := by
                have hK : ∀ y, (y < H.next ∨ y = H.next + 1 ∨ y = H.next + 2 ∨ y = x) → y < H4.next := by
                  obtain ⟨fx, Dx, -, hx⟩ := solo4
                  exact fun y hy => (hx y hy).1
                exact solo4.step (by omega) (fun y hy hn => k5 y fun e => hn (.inr (.inr (.inl e)))) fun y hy => ⟨by have := hK y hy; omega, .inl hy⟩
              have hK5 : ∀ y, (y < H.next ∨ y = H.next + 1 ∨ y = H.next + 2 ∨ y = x) → y < H5.next := by
                obtain ⟨fx, Dx, -, hx⟩ := solo5
                exact fun y hy => (hx y hy).1
              have hc4 := ch4.1
              obtain ⟨hn1, hn2, hn3, hn4', hn5, hn6'⟩ := hne
              refine ⟨m - 1, by omega, i + 1, by omega, mWait s 1, H5.next + 1, .slice (some (H5.next + 1, 0)) 1 ((s.r 5).length + 1) false, urg2, ⟨?_, ⟨by omega, fun y hy => ?_⟩, ⟨fl4, ?_, fun z hz => by rw [hlv2]; exact hfl4 z hz⟩, ⟨_, ba5.keep' (by omega) (k6 _ (hK5 _ (.inr (.inr (.inl rfl)))) hn3), fun z hz => ?_⟩, ?_, ?_⟩, ?_⟩
              · refine solo5.step (by omega) (fun y hy hn => k6 y hy fun e => hn (.inr (.inr (.inr e)))) fun y hy => ?_
                rcases hy with hy | rfl | rfl | rfl
                · exact ⟨by omega, .inl (.inl hy)⟩
                · exact ⟨by have := hK5 _ (.inr (.inl rfl)); omega, .inl (.inr (.inl rfl))⟩
                · exact ⟨by have := hK5 _ (.inr (.inr (.inl rfl))); omega, .inl (.inr (.inr (.inl rfl)))⟩
                · exact ⟨by omega, .inr (by omega)⟩
              · have e : H6.get y = H.get y := by rw [k6 y (by omega) (by omega), k5 y (by omega), ch4.keep hy (by simp)]
                exact ⟨.inl e, fun _ => e⟩
              · have bl5 : Blk H5 (H.next + 1) 6 fl4 := bl4.keep' (by omega) (k5 _ hn1)
                exact bl5.keep' (by omega) (k6 _ (hK5 _ (.inr (.inl rfl))) hn2)
              · rw [hr5']
                by_cases e : z = ff
                · subst e; rw [upd_same]; simp
                · rw [upd_ne e, hfa4 z hz]; simp [e]
              · rw [hr5', List.length_append]
                have e : nats (s.r 5 ++ [ff]) = nats (s.r 5) ++ [.int .i64 ff] := by simp [nats, iv]
                rw [e]
                exact wt6
              · exact ⟨by omega, by have := hK5 _ (.inr (.inl rfl)); omega, by have := hK5 _ (.inr (.inr (.inl rfl))); omega, by omega, by omega, by omega⟩
              · simp -implicitDefEqProofs only [f1, f5, f6, f7, f8, f10, f11, ↓WP_seq, ↓WP_skip, ↓WP_region, ↓WP_dregion, ↓WP_cond, ↓WP_block, ↓WP_exit, ↓WP_ret, ↓OW_nil, ↓OW_cons, ↓DW_nil, ↓DW_cons, ↓XW_call, XW, exA, KO_eq, KD_eq, OptK_some, EvK_some, GW2_true, GW2_false, KS_normal, KS_ret, KS_exit, KB_normal, KB_ret, KB_exit, CP2_bool, RP_ret, RP_normal, putA_some, putA_none, ev_t, ev_c, evs, evo, wantA, initA, resA, Tr.get_set, vl, chkOk, cond_true, cond_false, Nat.add_zero, Nat.mul_one, Nat.one_mul, Nat.zero_add, Nat.zero_mul, aggOf, pInt, binA, unA, intA, beq_true, beq_false, Bool.not_true, Bool.not_false, Bool.not_eq_true, and_self, and_true, true_and, ↓reduceIte, reduceIte, Nat.reduceEqDiff, Nat.succ_ne_self, Nat.reduceAdd, Nat.reduceMul, Nat.reduceSub, Nat.reduceBEq, Nat.reduceLT, Nat.reduceLeDiff, Int.cast_ofNat_Int, Int.reduceToNat, Int.reduceLT, Int.reduceLE, Int.reduceGE, Int.reduceGT, Int.reduceEq, Int.reduceNe, Int.reduceAdd, Int.reduceSub, Int.reduceNeg, decide_true, decide_false, Int.toNat_natCast, reduceCtorEq, List.nil_append, List.cons_append, AV.boxy, AV.cells, List.length_cons, List.length_nil, Nat.beq_refl, AOp.cl, ↓OW_guard, ↓DW_guard, KDW_0, KDW_1, KDW_2, OWskip_eq, DWskip_eq, fillA, setAt, DChk, DAt, stepA, ble_dec, beq_dec, Bool.and_self, Bool.and_true, Bool.true_and, Bool.and_false, Bool.false_and, List.take_succ_cons, List.take_zero, List.drop_succ_cons, List.drop_zero, List.take_nil, List.drop_nil, List.append_nil, eqAV, eqAVL, BEq.rfl, eqA, eqD, sameS, Option.map, Option.isNone, addrA, wrap64, gt_iff_lt, ge_iff_le, Int.lt_irrefl, Int.le_refl]
            · have q0 : (((2 : Nat) : Int) == 0) = false := rfl
              have q1 : (((2 : Nat) : Int) == 1) = false := rfl
              have q2 : (((2 : Nat) : Int) == 2) = true := rfl
              cases e5 : s.r 5 with
              | nil =>
                obtain ⟨ix, clx, evx, -⟩ := wt
                rw [e5] at evx
                have f10' := f10
                rw [evx] at f10'
                simp -implicitDefEqProofs only [f1, f5, f6, f7, f8, f10', f11, f12, hi1', hi0, lk, h3v, hk, hw, iv, Bool.false_eq_true, hck, hck2, hck3, la0, q0, q1, q2, List.length_nil, ↓WP_seq, ↓WP_skip, ↓WP_region, ↓WP_dregion, ↓WP_cond, ↓WP_block, ↓WP_exit, ↓WP_ret, ↓OW_nil, ↓OW_cons, ↓DW_nil, ↓DW_cons, ↓XW_call, XW, exA, KO_eq, KD_eq, OptK_some, EvK_some, GW2_true, GW2_false, KS_normal, KS_ret, KS_exit, KB_normal, KB_ret, KB_exit, CP2_bool, RP_ret, RP_normal, putA_some, putA_none, ev_t, ev_c, evs, evo, wantA, initA, resA, Tr.get_set, vl, chkOk, cond_true, cond_false, Nat.add_zero, Nat.mul_one, Nat.one_mul, Nat.zero_add, Nat.zero_mul, aggOf, pInt, binA, unA, intA, beq_true, beq_false, Bool.not_true, Bool.not_false, Bool.not_eq_true, and_self, and_true, true_and, ↓reduceIte, reduceIte, Nat.reduceEqDiff, Nat.succ_ne_self, Nat.reduceAdd, Nat.reduceMul, Nat.reduceSub, Nat.reduceBEq, Nat.reduceLT, Nat.reduceLeDiff, Int.cast_ofNat_Int, Int.reduceToNat, Int.reduceLT, Int.reduceLE, Int.reduceGE, Int.reduceGT, Int.reduceEq, Int.reduceNe, Int.reduceAdd, Int.reduceSub, Int.reduceNeg, decide_true, decide_false, Int.toNat_natCast, reduceCtorEq, List.nil_append, List.cons_append, AV.boxy, AV.cells, List.length_cons, List.length_nil, Nat.beq_refl, AOp.cl, ↓OW_guard, ↓DW_guard, KDW_0, KDW_1, KDW_2, OWskip_eq, DWskip_eq, fillA, setAt, DChk, DAt, stepA, ble_dec, beq_dec, Bool.and_self, Bool.and_true, Bool.true_and, Bool.and_false, Bool.false_and, List.take_succ_cons, List.take_zero, List.drop_succ_cons, List.drop_zero, List.take_nil, List.drop_nil, List.append_nil, eqAV, eqAVL, BEq.rfl, eqA, eqD, sameS, Option.map, Option.isNone, addrA, wrap64, gt_iff_lt, ge_iff_le, Int.lt_irrefl, Int.le_refl]
                refine ⟨m - 1, by omega, i + 1, by omega, s, x, v, urg, sid', ?_⟩
                simp -implicitDefEqProofs only [f1, f5, f6, f7, f8, f10, f11, ↓WP_seq, ↓WP_skip, ↓WP_region, ↓WP_dregion, ↓WP_cond, ↓WP_block, ↓WP_exit, ↓WP_ret, ↓OW_nil, ↓OW_cons, ↓DW_nil, ↓DW_cons, ↓XW_call, XW, exA, KO_eq, KD_eq, OptK_some, EvK_some, GW2_true, GW2_false, KS_normal, KS_ret, KS_exit, KB_normal, KB_ret, KB_exit, CP2_bool, RP_ret, RP_normal, putA_some, putA_none, ev_t, ev_c, evs, evo, wantA, initA, resA, Tr.get_set, vl, chkOk, cond_true, cond_false, Nat.add_zero, Nat.mul_one, Nat.one_mul, Nat.zero_add, Nat.zero_mul, aggOf, pInt, binA, unA, intA, beq_true, beq_false, Bool.not_true, Bool.not_false, Bool.not_eq_true, and_self, and_true, true_and, ↓reduceIte, reduceIte, Nat.reduceEqDiff, Nat.succ_ne_self, Nat.reduceAdd, Nat.reduceMul, Nat.reduceSub, Nat.reduceBEq, Nat.reduceLT, Nat.reduceLeDiff, Int.cast_ofNat_Int, Int.reduceToNat, Int.reduceLT, Int.reduceLE, Int.reduceGE, Int.reduceGT, Int.reduceEq, Int.reduceNe, Int.reduceAdd, Int.reduceSub, Int.reduceNeg, decide_true, decide_false, Int.toNat_natCast, reduceCtorEq, List.nil_append, List.cons_append, AV.boxy, AV.cells, List.length_cons, List.length_nil, Nat.beq_refl, AOp.cl, ↓OW_guard, ↓DW_guard, KDW_0, KDW_1, KDW_2, OWskip_eq, DWskip_eq, fillA, setAt, DChk, DAt, stepA, ble_dec, beq_dec, Bool.and_self, Bool.and_true, Bool.true_and, Bool.and_false, Bool.false_and, List.take_succ_cons, List.take_zero, List.drop_succ_cons, List.drop_zero, List.take_nil, List.drop_nil, List.append_nil, eqAV, eqAVL, BEq.rfl, eqA, eqD, sameS, Option.map, Option.isNone, addrA, wrap64, gt_iff_lt, ge_iff_le, Int.lt_irrefl, Int.le_refl]
              | cons w t =>
                obtain ⟨hvp, urg2, hr5', hlv2⟩ := urg.post e5
                have wt' := wt
                rw [e5] at wt'
                obtain ⟨ix, clx, evx, ldx, -⟩ := Sw.tail wt'
                have f10' := f10
                rw [evx] at f10'
                have hw5 : w ∈ s.r 5 := by rw [e5]; exact List.mem_cons_self ..
                have hw6 := urg.inv.inn w (urg.inv.memr (i := 5) (by omega) hw5)
                have hw0 : (0 : Int) ≤ (w : Int) := by omega
                have hw6' : (w : Int) < 6 := by omega
                have hlpos : ((0 : Int) < ((t.length + 1 : Nat) : Int)) = True := by simp
                have hl1t : ((1 : Int) ≤ ((t.length + 1 : Nat) : Int)) = True := by simp; omega
                simp -implicitDefEqProofs only [f1, f5, f6, f7, f8, f10', f11, f12, hi1', hi0, lk, h3v, hk, hw, iv, Bool.false_eq_true, hck, hck2, hck3, la0, q0, q1, q2, hlpos, ldx, ↓WP_seq, ↓WP_skip, ↓WP_region, ↓WP_dregion, ↓WP_cond, ↓WP_block, ↓WP_exit, ↓WP_ret, ↓OW_nil, ↓OW_cons, ↓DW_nil, ↓DW_cons, ↓XW_call, XW, exA, KO_eq, KD_eq, OptK_some, EvK_some, GW2_true, GW2_false, KS_normal, KS_ret, KS_exit, KB_normal, KB_ret, KB_exit, CP2_bool, RP_ret, RP_normal, putA_some, putA_none, ev_t, ev_c, evs, evo, wantA, initA, resA, Tr.get_set, vl, chkOk, cond_true, cond_false, Nat.add_zero, Nat.mul_one, Nat.one_mul, Nat.zero_add, Nat.zero_mul, aggOf, pInt, binA, unA, intA, beq_true, beq_false, Bool.not_true, Bool.not_false, Bool.not_eq_true, and_self, and_true, true_and, ↓reduceIte, reduceIte, Nat.reduceEqDiff, Nat.succ_ne_self, Nat.reduceAdd, Nat.reduceMul, Nat.reduceSub, Nat.reduceBEq, Nat.reduceLT, Nat.reduceLeDiff, Int.cast_ofNat_Int, Int.reduceToNat, Int.reduceLT, Int.reduceLE, Int.reduceGE, Int.reduceGT, Int.reduceEq, Int.reduceNe, Int.reduceAdd, Int.reduceSub, Int.reduceNeg, decide_true, decide_false, Int.toNat_natCast, reduceCtorEq, List.nil_append, List.cons_append, AV.boxy, AV.cells, List.length_cons, List.length_nil, Nat.beq_refl, AOp.cl, ↓OW_guard, ↓DW_guard, KDW_0, KDW_1, KDW_2, OWskip_eq, DWskip_eq, fillA, setAt, DChk, DAt, stepA, ble_dec, beq_dec, Bool.and_self, Bool.and_true, Bool.true_and, Bool.and_false, Bool.false_and, List.take_succ_cons, List.take_zero, List.drop_succ_cons, List.drop_zero, List.take_nil, List.drop_nil, List.append_nil, eqAV, eqAVL, BEq.rfl, eqA, eqD, sameS, Option.map, Option.isNone, addrA, wrap64, gt_iff_lt, ge_iff_le, Int.lt_irrefl, Int.le_refl]
                refine CW.mono (c_Post hq urg.inv 1) ?_
                rintro u H4 ⟨rfl, hg⟩
                obtain ⟨solo4, k4⟩ := nq _ _ hg
                have hn4 := hg.2.1
                obtain ⟨ch4, ⟨fl4, bl4, hfl4⟩, ⟨fa4, ba4, hfa4⟩, wt4⟩ := sid'.move hn4 solo4 k4
                rw [e5] at wt4
                obtain ⟨ix2, clx2, evx2, ldx2, wt42⟩ := Sw.tail wt4
                rw [evx] at evx2
                injection evx2 with ea _ _ ecl
                injection ea with ea2
                injection ea2 with _ ei
                subst ei; subst ecl
                obtain ⟨H5, st5, ba5, n5, k5⟩ := ba4.store (i := w) hw6 (.bool false)
                have wt5 := wt42.keep (H' := H5) (by omega) (k5 x (Ne.symm hne.2.2.1))
                simp -implicitDefEqProofs only [f1, f5, f6, f7, f8, f10', f11, f12, hi1', hi0, lk, h3v, hk, hw, iv, Bool.false_eq_true, hck, hck2, hck3, la0, q0, q1, q2, hlpos, hl1t, ldx, ldx2, hvp, st5, hw0, hw6', slA, boundA, Option.isSome, Nat.add_sub_cancel, bne_self_eq_false, ↓WP_seq, ↓WP_skip, ↓WP_region, ↓WP_dregion, ↓WP_cond, ↓WP_block, ↓WP_exit, ↓WP_ret, ↓OW_nil, ↓OW_cons, ↓DW_nil, ↓DW_cons, ↓XW_call, XW, exA, KO_eq, KD_eq, OptK_some, EvK_some, GW2_true, GW2_false, KS_normal, KS_ret, KS_exit, KB_normal, KB_ret, KB_exit, CP2_bool, RP_ret, RP_normal, putA_some, putA_none, ev_t, ev_c, evs, evo, wantA, initA, resA, Tr.get_set, vl, chkOk, cond_true, cond_false, Nat.add_zero, Nat.mul_one, Nat.one_mul, Nat.zero_add, Nat.zero_mul, aggOf, pInt, binA, unA, intA, beq_true, beq_false, Bool.not_true, Bool.not_false, Bool.not_eq_true, and_self, and_true, true_and, ↓reduceIte, reduceIte, Nat.reduceEqDiff, Nat.succ_ne_self, Nat.reduceAdd, Nat.reduceMul, Nat.reduceSub, Nat.reduceBEq, Nat.reduceLT, Nat.reduceLeDiff, Int.cast_ofNat_Int, Int.reduceToNat, Int.reduceLT, Int.reduceLE, Int.reduceGE, Int.reduceGT, Int.reduceEq, Int.reduceNe, Int.reduceAdd, Int.reduceSub, Int.reduceNeg, decide_true, decide_false, Int.toNat_natCast, reduceCtorEq, List.nil_append, List.cons_append, AV.boxy, AV.cells, List.length_cons, List.length_nil, Nat.beq_refl, AOp.cl, ↓OW_guard, ↓DW_guard, KDW_0, KDW_1, KDW_2, OWskip_eq, DWskip_eq, fillA, setAt, DChk, DAt, stepA, ble_dec, beq_dec, Bool.and_self, Bool.and_true, Bool.true_and, Bool.and_false, Bool.false_and, List.take_succ_cons, List.take_zero, List.drop_succ_cons, List.drop_zero, List.take_nil, List.drop_nil, List.append_nil, eqAV, eqAVL, BEq.rfl, eqA, eqD, sameS, Option.map, Option.isNone, addrA, wrap64, gt_iff_lt, ge_iff_le, Int.lt_irrefl, Int.le_refl]
                have hK : ∀ y, (y < H.next ∨ y = H.next + 1 ∨ y = H.next + 2 ∨ y = x) → y < H4.next := by
                  obtain ⟨fx, Dx, -, hx⟩ := solo4
                  exact fun y hy => (hx y hy).1
                have hc4 := ch4.1
                obtain ⟨hn1, hn2, hn3, hn4', hn5, hn6'⟩ := hne
                have hnd : w ∉ t := by
                  intro hwt
                  have h1 := urg.inv.le1 w
                  have h2 : (s.r 5).count w = t.count w + 1 := by rw [e5, List.count_cons_self]
                  have h3 := count_pos hwt
                  unfold cnt at h1
                  omega
                refine ⟨m - 1, by omega, i + 1, by omega, mPost s 1, x, .slice (some (x, ix + 1)) 1 t.length clx, urg2, ⟨?_, ⟨by omega, fun y hy => ?_⟩, ⟨fl4, bl4.keep' (by omega) (k5 _ hn1), fun z hz => by rw [hlv2]; exact hfl4 z hz⟩, ⟨_, ba5, fun z hz => ?_⟩, ?_, ⟨hn1, hn2, hn3, hn4', hn5, hn6'⟩⟩, ?_⟩
                · exact solo4.step (by omega) (fun y hy hn => k5 y fun e => hn (.inr (.inr (.inl e)))) fun y hy => ⟨by have := hK y hy; omega, .inl hy⟩
                · have e : H5.get y = H.get y := by rw [k5 y (by omega), ch4.keep hy (by simp)]
                  exact ⟨.inl e, fun _ => e⟩
                · rw [hr5']
                  by_cases e : z = w
                  · subst e; rw [upd_same]; simp [hnd]
                  · rw [upd_ne e, hfa4 z hz, e5]; simp [e]
                · rw [hr5']
                  exact wt5
                · simp -implicitDefEqProofs only [f1, f5, f6, f7, f8, f10, f11, ↓WP_seq, ↓WP_skip, ↓WP_region, ↓WP_dregion, ↓WP_cond, ↓WP_block, ↓WP_exit, ↓WP_ret, ↓OW_nil, ↓OW_cons, ↓DW_nil, ↓DW_cons, ↓XW_call, XW, exA, KO_eq, KD_eq, OptK_some, EvK_some, GW2_true, GW2_false, KS_normal, KS_ret, KS_exit, KB_normal, KB_ret, KB_exit, CP2_bool, RP_ret, RP_normal, putA_some, putA_none, ev_t, ev_c, evs, evo, wantA, initA, resA, Tr.get_set, vl, chkOk, cond_true, cond_false, Nat.add_zero, Nat.mul_one, Nat.one_mul, Nat.zero_add, Nat.zero_mul, aggOf, pInt, binA, unA, intA, beq_true, beq_false, Bool.not_true, Bool.not_false, Bool.not_eq_true, and_self, and_true, true_and, ↓reduceIte, reduceIte, Nat.reduceEqDiff, Nat.succ_ne_self, Nat.reduceAdd, Nat.reduceMul, Nat.reduceSub, Nat.reduceBEq, Nat.reduceLT, Nat.reduceLeDiff, Int.cast_ofNat_Int, Int.reduceToNat, Int.reduceLT, Int.reduceLE, Int.reduceGE, Int.reduceGT, Int.reduceEq, Int.reduceNe, Int.reduceAdd, Int.reduceSub, Int.reduceNeg, decide_true, decide_false, Int.toNat_natCast, reduceCtorEq, List.nil_append, List.cons_append, AV.boxy, AV.cells, List.length_cons, List.length_nil, Nat.beq_refl, AOp.cl, ↓OW_guard, ↓DW_guard, KDW_0, KDW_1, KDW_2, OWskip_eq, DWskip_eq, fillA, setAt, DChk, DAt, stepA, ble_dec, beq_dec, Bool.and_self, Bool.and_true, Bool.true_and, Bool.and_false, Bool.false_and, List.take_succ_cons, List.take_zero, List.drop_succ_cons, List.drop_zero, List.take_nil, List.drop_nil, List.append_nil, eqAV, eqAVL, BEq.rfl, eqA, eqD, sameS, Option.map, Option.isNone, addrA, wrap64, gt_iff_lt, ge_iff_le, Int.lt_irrefl, Int.le_refl]
            · have q0 : (((3 : Nat) : Int) == 0) = false := rfl
              have q1 : (((3 : Nat) : Int) == 1) = false := rfl
              have q2 : (((3 : Nat) : Int) == 2) = false := rfl
              obtain ⟨urg2, hr5', hlv2⟩ := urg.turn
              simp -implicitDefEqProofs only [f1, f5, f6, f7, f8, f10, f11, f12, hi1', hi0, lk, h3v, hk, hw, iv, Bool.false_eq_true, hck, hck2, hck3, la0, q0, q1, q2, ↓WP_seq, ↓WP_skip, ↓WP_region, ↓WP_dregion, ↓WP_cond, ↓WP_block, ↓WP_exit, ↓WP_ret, ↓OW_nil, ↓OW_cons, ↓DW_nil, ↓DW_cons, ↓XW_call, XW, exA, KO_eq, KD_eq, OptK_some, EvK_some, GW2_true, GW2_false, KS_normal, KS_ret, KS_exit, KB_normal, KB_ret, KB_exit, CP2_bool, RP_ret, RP_normal, putA_some, putA_none, ev_t, ev_c, evs, evo, wantA, initA, resA, Tr.get_set, vl, chkOk, cond_true, cond_false, Nat.add_zero, Nat.mul_one, Nat.one_mul, Nat.zero_add, Nat.zero_mul, aggOf, pInt, binA, unA, intA, beq_true, beq_false, Bool.not_true, Bool.not_false, Bool.not_eq_true, and_self, and_true, true_and, ↓reduceIte, reduceIte, Nat.reduceEqDiff, Nat.succ_ne_self, Nat.reduceAdd, Nat.reduceMul, Nat.reduceSub, Nat.reduceBEq, Nat.reduceLT, Nat.reduceLeDiff, Int.cast_ofNat_Int, Int.reduceToNat, Int.reduceLT, Int.reduceLE, Int.reduceGE, Int.reduceGT, Int.reduceEq, Int.reduceNe, Int.reduceAdd, Int.reduceSub, Int.reduceNeg, decide_true, decide_false, Int.toNat_natCast, reduceCtorEq, List.nil_append, List.cons_append, AV.boxy, AV.cells, List.length_cons, List.length_nil, Nat.beq_refl, AOp.cl, ↓OW_guard, ↓DW_guard, KDW_0, KDW_1, KDW_2, OWskip_eq, DWskip_eq, fillA, setAt, DChk, DAt, stepA, ble_dec, beq_dec, Bool.and_self, Bool.and_true, Bool.true_and, Bool.and_false, Bool.false_and, List.take_succ_cons, List.take_zero, List.drop_succ_cons, List.drop_zero, List.take_nil, List.drop_nil, List.append_nil, eqAV, eqAVL, BEq.rfl, eqA, eqD, sameS, Option.map, Option.isNone, addrA, wrap64, gt_iff_lt, ge_iff_le, Int.lt_irrefl, Int.le_refl]
              refine CW.mono (c_Turn hq urg.inv) ?_
              rintro u H4 ⟨rfl, hg⟩
              obtain ⟨solo4, k4⟩ := nq _ _ hg
              have hn4 := hg.2.1
              obtain ⟨ch4, ⟨fl4, bl4, hfl4⟩, ⟨fa4, ba4, hfa4⟩, wt4⟩ := sid'.move hn4 solo4 k4
              simp -implicitDefEqProofs only [f1, f5, f6, f7, f8, f10, f11, f12, hi1', hi0, lk, h3v, hk, hw, iv, Bool.false_eq_true, hck, hck2, hck3, la0, q0, q1, q2, ↓WP_seq, ↓WP_skip, ↓WP_region, ↓WP_dregion, ↓WP_cond, ↓WP_block, ↓WP_exit, ↓WP_ret, ↓OW_nil, ↓OW_cons, ↓DW_nil, ↓DW_cons, ↓XW_call, XW, exA, KO_eq, KD_eq, OptK_some, EvK_some, GW2_true, GW2_false, KS_normal, KS_ret, KS_exit, KB_normal, KB_ret, KB_exit, CP2_bool, RP_ret, RP_normal, putA_some, putA_none, ev_t, ev_c, evs, evo, wantA, initA, resA, Tr.get_set, vl, chkOk, cond_true, cond_false, Nat.add_zero, Nat.mul_one, Nat.one_mul, Nat.zero_add, Nat.zero_mul, aggOf, pInt, binA, unA, intA, beq_true, beq_false, Bool.not_true, Bool.not_false, Bool.not_eq_true, and_self, and_true, true_and, ↓reduceIte, reduceIte, Nat.reduceEqDiff, Nat.succ_ne_self, Nat.reduceAdd, Nat.reduceMul, Nat.reduceSub, Nat.reduceBEq, Nat.reduceLT, Nat.reduceLeDiff, Int.cast_ofNat_Int, Int.reduceToNat, Int.reduceLT, Int.reduceLE, Int.reduceGE, Int.reduceGT, Int.reduceEq, Int.reduceNe, Int.reduceAdd, Int.reduceSub, Int.reduceNeg, decide_true, decide_false, Int.toNat_natCast, reduceCtorEq, List.nil_append, List.cons_append, AV.boxy, AV.cells, List.length_cons, List.length_nil, Nat.beq_refl, AOp.cl, ↓OW_guard, ↓DW_guard, KDW_0, KDW_1, KDW_2, OWskip_eq, DWskip_eq, fillA, setAt, DChk, DAt, stepA, ble_dec, beq_dec, Bool.and_self, Bool.and_true, Bool.true_and, Bool.and_false, Bool.false_and, List.take_succ_cons, List.take_zero, List.drop_succ_cons, List.drop_zero, List.take_nil, List.drop_nil, List.append_nil, eqAV, eqAVL, BEq.rfl, eqA, eqD, sameS, Option.map, Option.isNone, addrA, wrap64, gt_iff_lt, ge_iff_le, Int.lt_irrefl, Int.le_refl]
              refine ⟨m - 1, by omega, i + 1, by omega, mTurn s, x, v, urg2, ⟨solo4, ch4, ⟨fl4, bl4, fun z hz => by rw [hlv2]; exact hfl4 z hz⟩, ⟨fa4, ba4, fun z hz => by rw [hr5']; exact hfa4 z hz⟩, by rw [hr5']; exact wt4, hne⟩, ?_⟩
              simp -implicitDefEqProofs only [f1, f5, f6, f7, f8, f10, f11, ↓WP_seq, ↓WP_skip, ↓WP_region, ↓WP_dregion, ↓WP_cond, ↓WP_block, ↓WP_exit, ↓WP_ret, ↓OW_nil, ↓OW_cons, ↓DW_nil, ↓DW_cons, ↓XW_call, XW, exA, KO_eq, KD_eq, OptK_some, EvK_some, GW2_true, GW2_false, KS_normal, KS_ret, KS_exit, KB_normal, KB_ret, KB_exit, CP2_bool, RP_ret, RP_normal, putA_some, putA_none, ev_t, ev_c, evs, evo, wantA, initA, resA, Tr.get_set, vl, chkOk, cond_true, cond_false, Nat.add_zero, Nat.mul_one, Nat.one_mul, Nat.zero_add, Nat.zero_mul, aggOf, pInt, binA, unA, intA, beq_true, beq_false, Bool.not_true, Bool.not_false, Bool.not_eq_true, and_self, and_true, true_and, ↓reduceIte, reduceIte, Nat.reduceEqDiff, Nat.succ_ne_self, Nat.reduceAdd, Nat.reduceMul, Nat.reduceSub, Nat.reduceBEq, Nat.reduceLT, Nat.reduceLeDiff, Int.cast_ofNat_Int, Int.reduceToNat, Int.reduceLT, Int.reduceLE, Int.reduceGE, Int.reduceGT, Int.reduceEq, Int.reduceNe, Int.reduceAdd, Int.reduceSub, Int.reduceNeg, decide_true, decide_false, Int.toNat_natCast, reduceCtorEq, List.nil_append, List.cons_append, AV.boxy, AV.cells, List.length_cons, List.length_nil, Nat.beq_refl, AOp.cl, ↓OW_guard, ↓DW_guard, KDW_0, KDW_1, KDW_2, OWskip_eq, DWskip_eq, fillA, setAt, DChk, DAt, stepA, ble_dec, beq_dec, Bool.and_self, Bool.and_true, Bool.true_and, Bool.and_false, Bool.false_and, List.take_succ_cons, List.take_zero, List.drop_succ_cons, List.drop_zero, List.take_nil, List.drop_nil, List.append_nil, eqAV, eqAVL, BEq.rfl, eqA, eqD, sameS, Option.map, Option.isNone, addrA, wrap64, gt_iff_lt, ge_iff_le, Int.lt_irrefl, Int.le_refl]
        · refine WP_loop (fun m fr H' => ∃ p : Nat, m + p = n ∧ H' = H2 ∧ fr.get 1 = some (.slice a1 s1 l.length cl1) ∧ fr.get 5 = some (.ptr (some (H.next, 0))) ∧ fr.get 6 = some (.ptr (some (H.next + 1, 0))) ∧ fr.get 7 = some (.ptr (some (H.next + 2, 0))) ∧ fr.get 8 = some (.int .i64 n) ∧ fr.get 10 = some v ∧ fr.get 11 = some (.int .i64 i) ∧ fr.get 12 = some (.int .i64 (optI (fst1 s))) ∧ fr.get 13 = some (.int .i64 p)) n ?_ ?_
          · refine ⟨0, by omega, rfl, ?_⟩
            simp -implicitDefEqProofs only [g1, g5, g6, g7, g8, g10, g11, ↓WP_seq, ↓WP_skip, ↓WP_region, ↓WP_dregion, ↓WP_cond, ↓WP_block, ↓WP_exit, ↓WP_ret, ↓OW_nil, ↓OW_cons, ↓DW_nil, ↓DW_cons, ↓XW_call, XW, exA, KO_eq, KD_eq, OptK_some, EvK_some, GW2_true, GW2_false, KS_normal, KS_ret, KS_exit, KB_normal, KB_ret, KB_exit, CP2_bool, RP_ret, RP_normal, putA_some, putA_none, ev_t, ev_c, evs, evo, wantA, initA, resA, Tr.get_set, vl, chkOk, cond_true, cond_false, Nat.add_zero, Nat.mul_one, Nat.one_mul, Nat.zero_add, Nat.zero_mul, aggOf, pInt, binA, unA, intA, beq_true, beq_false, Bool.not_true, Bool.not_false, Bool.not_eq_true, and_self, and_true, true_and, ↓reduceIte, reduceIte, Nat.reduceEqDiff, Nat.succ_ne_self, Nat.reduceAdd, Nat.reduceMul, Nat.reduceSub, Nat.reduceBEq, Nat.reduceLT, Nat.reduceLeDiff, Int.cast_ofNat_Int, Int.reduceToNat, Int.reduceLT, Int.reduceLE, Int.reduceGE, Int.reduceGT, Int.reduceEq, Int.reduceNe, Int.reduceAdd, Int.reduceSub, Int.reduceNeg, decide_true, decide_false, Int.toNat_natCast, reduceCtorEq, List.nil_append, List.cons_append, AV.boxy, AV.cells, List.length_cons, List.length_nil, Nat.beq_refl, AOp.cl, ↓OW_guard, ↓DW_guard, KDW_0, KDW_1, KDW_2, OWskip_eq, DWskip_eq, fillA, setAt, DChk, DAt, stepA, ble_dec, beq_dec, Bool.and_self, Bool.and_true, Bool.true_and, Bool.and_false, Bool.false_and, List.take_succ_cons, List.take_zero, List.drop_succ_cons, List.drop_zero, List.take_nil, List.drop_nil, List.append_nil, eqAV, eqAVL, BEq.rfl, eqA, eqD, sameS, Option.map, Option.isNone, addrA, wrap64, gt_iff_lt, ge_iff_le, Int.lt_irrefl, Int.le_refl]
          · rintro m3 fr3 H3 ⟨p, hmp, rfl, x1, x5, x6, x7, x8, x10, x11, x12, x13⟩
            by_cases hp : p < n
            · have hp' : (p : Int) < (n : Int) := by omega
              have hp0 : (0 : Int) ≤ (p : Int) := by omega
              have hp6 : (p : Int) < 6 := by omega
              have hwp : IntKind.i64.wrap ((p : Int) + 1) = ((p + 1 : Nat) : Int) := by rw [wrap64 (by omega) (by omega)]; omega
              have la := ba.load (i := p) (by omega)
              have ll := bl.load (i := p) (by omega)
              rw [hfa p (by omega)] at la
              rw [hfl p hp] at ll
              have hv : vLevel s (p : Int) = s.lv p := by
                have := urg.inn p
                unfold vLevel
                rw [if_pos ⟨⟨by omega, by omega⟩, by rw [Int.toNat_natCast, this]; simpa using hp⟩, Int.toNat_natCast]
              by_cases haw : p ∈ s.r 5
              · have hd : decide (p ∈ s.r 5) = true := by simpa using haw
                rw [hd] at la
                simp -implicitDefEqProofs only [x1, x5, x6, x7, x8, x10, x11, x12, x13, hp', hp0, hp6, la, ll, Bool.false_eq_true, ↓WP_seq, ↓WP_skip, ↓WP_region, ↓WP_dregion, ↓WP_cond, ↓WP_block, ↓WP_exit, ↓WP_ret, ↓OW_nil, ↓OW_cons, ↓DW_nil, ↓DW_cons, ↓XW_call, XW, exA, KO_eq, KD_eq, OptK_some, EvK_some, GW2_true, GW2_false, KS_normal, KS_ret, KS_exit, KB_normal, KB_ret, KB_exit, CP2_bool, RP_ret, RP_normal, putA_some, putA_none, ev_t, ev_c, evs, evo, wantA, initA, resA, Tr.get_set, vl, chkOk, cond_true, cond_false, Nat.add_zero, Nat.mul_one, Nat.one_mul, Nat.zero_add, Nat.zero_mul, aggOf, pInt, binA, unA, intA, beq_true, beq_false, Bool.not_true, Bool.not_false, Bool.not_eq_true, and_self, and_true, true_and, ↓reduceIte, reduceIte, Nat.reduceEqDiff, Nat.succ_ne_self, Nat.reduceAdd, Nat.reduceMul, Nat.reduceSub, Nat.reduceBEq, Nat.reduceLT, Nat.reduceLeDiff, Int.cast_ofNat_Int, Int.reduceToNat, Int.reduceLT, Int.reduceLE, Int.reduceGE, Int.reduceGT, Int.reduceEq, Int.reduceNe, Int.reduceAdd, Int.reduceSub, Int.reduceNeg, decide_true, decide_false, Int.toNat_natCast, reduceCtorEq, List.nil_append, List.cons_append, AV.boxy, AV.cells, List.length_cons, List.length_nil, Nat.beq_refl, AOp.cl, ↓OW_guard, ↓DW_guard, KDW_0, KDW_1, KDW_2, OWskip_eq, DWskip_eq, fillA, setAt, DChk, DAt, stepA, ble_dec, beq_dec, Bool.and_self, Bool.and_true, Bool.true_and, Bool.and_false, Bool.false_and, List.take_succ_cons, List.take_zero, List.drop_succ_cons, List.drop_zero, List.take_nil, List.drop_nil, List.append_nil, eqAV, eqAVL, BEq.rfl, eqA, eqD, sameS, Option.map, Option.isNone, addrA, wrap64, gt_iff_lt, ge_iff_le, Int.lt_irrefl, Int.le_refl]
                refine CW.mono (c_Level hq (p : Int)) ?_
                rintro u H4 ⟨rfl, rfl⟩
                simp -implicitDefEqProofs only [x1, x5, x6, x7, x8, x10, x11, x12, x13, hp', hp0, hp6, la, ll, hv, hwp, iv, bne_self_eq_false, Bool.false_eq_true, ↓WP_seq, ↓WP_skip, ↓WP_region, ↓WP_dregion, ↓WP_cond, ↓WP_block, ↓WP_exit, ↓WP_ret, ↓OW_nil, ↓OW_cons, ↓DW_nil, ↓DW_cons, ↓XW_call, XW, exA, KO_eq, KD_eq, OptK_some, EvK_some, GW2_true, GW2_false, KS_normal, KS_ret, KS_exit, KB_normal, KB_ret, KB_exit, CP2_bool, RP_ret, RP_normal, putA_some, putA_none, ev_t, ev_c, evs, evo, wantA, initA, resA, Tr.get_set, vl, chkOk, cond_true, cond_false, Nat.add_zero, Nat.mul_one, Nat.one_mul, Nat.zero_add, Nat.zero_mul, aggOf, pInt, binA, unA, intA, beq_true, beq_false, Bool.not_true, Bool.not_false, Bool.not_eq_true, and_self, and_true, true_and, ↓reduceIte, reduceIte, Nat.reduceEqDiff, Nat.succ_ne_self, Nat.reduceAdd, Nat.reduceMul, Nat.reduceSub, Nat.reduceBEq, Nat.reduceLT, Nat.reduceLeDiff, Int.cast_ofNat_Int, Int.reduceToNat, Int.reduceLT, Int.reduceLE, Int.reduceGE, Int.reduceGT, Int.reduceEq, Int.reduceNe, Int.reduceAdd, Int.reduceSub, Int.reduceNeg, decide_true, decide_false, Int.toNat_natCast, reduceCtorEq, List.nil_append, List.cons_append, AV.boxy, AV.cells, List.length_cons, List.length_nil, Nat.beq_refl, AOp.cl, ↓OW_guard, ↓DW_guard, KDW_0, KDW_1, KDW_2, OWskip_eq, DWskip_eq, fillA, setAt, DChk, DAt, stepA, ble_dec, beq_dec, Bool.and_self, Bool.and_true, Bool.true_and, Bool.and_false, Bool.false_and, List.take_succ_cons, List.take_zero, List.drop_succ_cons, List.drop_zero, List.take_nil, List.drop_nil, List.append_nil, eqAV, eqAVL, BEq.rfl, eqA, eqD, sameS, Option.map, Option.isNone, addrA, wrap64, gt_iff_lt, ge_iff_le, Int.lt_irrefl, Int.le_refl]
                exact ⟨m3 - 1, by omega, p + 1, by omega, rfl⟩
              · have hd : decide (p ∈ s.r 5) = false := by simpa using haw
                rw [hd] at la
                obtain ⟨ff, hff, hle⟩ := urg.first hp haw
                obtain ⟨hfn, hf5, hf6⟩ := urg.run hff
                have lf := bl.load (i := ff) (by omega)
                rw [hfl ff hfn] at lf
                have hf0 : (0 : Int) ≤ (ff : Int) := by omega
                have hf6' : (ff : Int) < 6 := by omega
                have hfn' : ¬ (ff : Int) < 0 := by omega
                have hgt : ¬ (s.lv ff : Int) < (s.lv p : Int) := by omega
                rw [hff] at x12
                simp only [optI] at x12
                simp -implicitDefEqProofs only [x1, x5, x6, x7, x8, x10, x11, x12, x13, hp', hp0, hp6, la, ll, lf, hf0, hf6', hfn', hgt, Bool.false_eq_true, ↓WP_seq, ↓WP_skip, ↓WP_region, ↓WP_dregion, ↓WP_cond, ↓WP_block, ↓WP_exit, ↓WP_ret, ↓OW_nil, ↓OW_cons, ↓DW_nil, ↓DW_cons, ↓XW_call, XW, exA, KO_eq, KD_eq, OptK_some, EvK_some, GW2_true, GW2_false, KS_normal, KS_ret, KS_exit, KB_normal, KB_ret, KB_exit, CP2_bool, RP_ret, RP_normal, putA_some, putA_none, ev_t, ev_c, evs, evo, wantA, initA, resA, Tr.get_set, vl, chkOk, cond_true, cond_false, Nat.add_zero, Nat.mul_one, Nat.one_mul, Nat.zero_add, Nat.zero_mul, aggOf, pInt, binA, unA, intA, beq_true, beq_false, Bool.not_true, Bool.not_false, Bool.not_eq_true, and_self, and_true, true_and, ↓reduceIte, reduceIte, Nat.reduceEqDiff, Nat.succ_ne_self, Nat.reduceAdd, Nat.reduceMul, Nat.reduceSub, Nat.reduceBEq, Nat.reduceLT, Nat.reduceLeDiff, Int.cast_ofNat_Int, Int.reduceToNat, Int.reduceLT, Int.reduceLE, Int.reduceGE, Int.reduceGT, Int.reduceEq, Int.reduceNe, Int.reduceAdd, Int.reduceSub, Int.reduceNeg, decide_true, decide_false, Int.toNat_natCast, reduceCtorEq, List.nil_append, List.cons_append, AV.boxy, AV.cells, List.length_cons, List.length_nil, Nat.beq_refl, AOp.cl, ↓OW_guard, ↓DW_guard, KDW_0, KDW_1, KDW_2, OWskip_eq, DWskip_eq, fillA, setAt, DChk, DAt, stepA, ble_dec, beq_dec, Bool.and_self, Bool.and_true, Bool.true_and, Bool.and_false, Bool.false_and, List.take_succ_cons, List.take_zero, List.drop_succ_cons, List.drop_zero, List.take_nil, List.drop_nil, List.append_nil, eqAV, eqAVL, BEq.rfl, eqA, eqD, sameS, Option.map, Option.isNone, addrA, wrap64, gt_iff_lt, ge_iff_le, Int.lt_irrefl, Int.le_refl]
                refine CW.mono (c_Level hq (p : Int)) ?_
                rintro u H4 ⟨rfl, rfl⟩
                simp -implicitDefEqProofs only [x1, x5, x6, x7, x8, x10, x11, x12, x13, hp', hp0, hp6, la, ll, lf, hf0, hf6', hfn', hgt, hv, hwp, iv, bne_self_eq_false, Bool.false_eq_true, ↓WP_seq, ↓WP_skip, ↓WP_region, ↓WP_dregion, ↓WP_cond, ↓WP_block, ↓WP_exit, ↓WP_ret, ↓OW_nil, ↓OW_cons, ↓DW_nil, ↓DW_cons, ↓XW_call, XW, exA, KO_eq, KD_eq, OptK_some, EvK_some, GW2_true, GW2_false, KS_normal, KS_ret, KS_exit, KB_normal, KB_ret, KB_exit, CP2_bool, RP_ret, RP_normal, putA_some, putA_none, ev_t, ev_c, evs, evo, wantA, initA, resA, Tr.get_set, vl, chkOk, cond_true, cond_false, Nat.add_zero, Nat.mul_one, Nat.one_mul, Nat.zero_add, Nat.zero_mul, aggOf, pInt, binA, unA, intA, beq_true, beq_false, Bool.not_true, Bool.not_false, Bool.not_eq_true, and_self, and_true, true_and, ↓reduceIte, reduceIte, Nat.reduceEqDiff, Nat.succ_ne_self, Nat.reduceAdd, Nat.reduceMul, Nat.reduceSub, Nat.reduceBEq, Nat.reduceLT, Nat.reduceLeDiff, Int.cast_ofNat_Int, Int.reduceToNat, Int.reduceLT, Int.reduceLE, Int.reduceGE, Int.reduceGT, Int.reduceEq, Int.reduceNe, Int.reduceAdd, Int.reduceSub, Int.reduceNeg, decide_true, decide_false, Int.toNat_natCast, reduceCtorEq, List.nil_append, List.cons_append, AV.boxy, AV.cells, List.length_cons, List.length_nil, Nat.beq_refl, AOp.cl, ↓OW_guard, ↓DW_guard, KDW_0, KDW_1, KDW_2, OWskip_eq, DWskip_eq, fillA, setAt, DChk, DAt, stepA, ble_dec, beq_dec, Bool.and_self, Bool.and_true, Bool.true_and, Bool.and_false, Bool.false_and, List.take_succ_cons, List.take_zero, List.drop_succ_cons, List.drop_zero, List.take_nil, List.drop_nil, List.append_nil, eqAV, eqAVL, BEq.rfl, eqA, eqD, sameS, Option.map, Option.isNone, addrA, wrap64, gt_iff_lt, ge_iff_le, Int.lt_irrefl, Int.le_refl]
                exact ⟨m3 - 1, by omega, p + 1, by omega, by rw [hff]; rfl, rfl⟩
            · have hp' : ¬ (p : Int) < (n : Int) := by omega
              simp -implicitDefEqProofs only [x1, x5, x6, x7, x8, x10, x11, x12, x13, hp', Bool.false_eq_true, ↓WP_seq, ↓WP_skip, ↓WP_region, ↓WP_dregion, ↓WP_cond, ↓WP_block, ↓WP_exit, ↓WP_ret, ↓OW_nil, ↓OW_cons, ↓DW_nil, ↓DW_cons, ↓XW_call, XW, exA, KO_eq, KD_eq, OptK_some, EvK_some, GW2_true, GW2_false, KS_normal, KS_ret, KS_exit, KB_normal, KB_ret, KB_exit, CP2_bool, RP_ret, RP_normal, putA_some, putA_none, ev_t, ev_c, evs, evo, wantA, initA, resA, Tr.get_set, vl, chkOk, cond_true, cond_false, Nat.add_zero, Nat.mul_one, Nat.one_mul, Nat.zero_add, Nat.zero_mul, aggOf, pInt, binA, unA, intA, beq_true, beq_false, Bool.not_true, Bool.not_false, Bool.not_eq_true, and_self, and_true, true_and, ↓reduceIte, reduceIte, Nat.reduceEqDiff, Nat.succ_ne_self, Nat.reduceAdd, Nat.reduceMul, Nat.reduceSub, Nat.reduceBEq, Nat.reduceLT, Nat.reduceLeDiff, Int.cast_ofNat_Int, Int.reduceToNat, Int.reduceLT, Int.reduceLE, Int.reduceGE, Int.reduceGT, Int.reduceEq, Int.reduceNe, Int.reduceAdd, Int.reduceSub, Int.reduceNeg, decide_true, decide_false, Int.toNat_natCast, reduceCtorEq, List.nil_append, List.cons_append, AV.boxy, AV.cells, List.length_cons, List.length_nil, Nat.beq_refl, AOp.cl, ↓OW_guard, ↓DW_guard, KDW_0, KDW_1, KDW_2, OWskip_eq, DWskip_eq, fillA, setAt, DChk, DAt, stepA, ble_dec, beq_dec, Bool.and_self, Bool.and_true, Bool.true_and, Bool.and_false, Bool.false_and, List.take_succ_cons, List.take_zero, List.drop_succ_cons, List.drop_zero, List.take_nil, List.drop_nil, List.append_nil, eqAV, eqAVL, BEq.rfl, eqA, eqD, sameS, Option.map, Option.isNone, addrA, wrap64, gt_iff_lt, ge_iff_le, Int.lt_irrefl, Int.le_refl]
      · by_cases hi1 : i < l.length
        · have hi1' : (i : Int) < (l.length : Int) := by omega
          by_cases hi2 : i < 80
          · have hi2' : (i : Int) < 80 := by omega
            have hn0' : ¬ (0 : Int) < (n : Int) := by omega
            simp -implicitDefEqProofs only [g1, g5, g6, g7, g8, g10, g11, hi1', hi2', hn0', Bool.false_eq_true, ↓WP_seq, ↓WP_skip, ↓WP_region, ↓WP_dregion, ↓WP_cond, ↓WP_block, ↓WP_exit, ↓WP_ret, ↓OW_nil, ↓OW_cons, ↓DW_nil, ↓DW_cons, ↓XW_call, XW, exA, KO_eq, KD_eq, OptK_some, EvK_some, GW2_true, GW2_false, KS_normal, KS_ret, KS_exit, KB_normal, KB_ret, KB_exit, CP2_bool, RP_ret, RP_normal, putA_some, putA_none, ev_t, ev_c, evs, evo, wantA, initA, resA, Tr.get_set, vl, chkOk, cond_true, cond_false, Nat.add_zero, Nat.mul_one, Nat.one_mul, Nat.zero_add, Nat.zero_mul, aggOf, pInt, binA, unA, intA, beq_true, beq_false, Bool.not_true, Bool.not_false, Bool.not_eq_true, and_self, and_true, true_and, ↓reduceIte, reduceIte, Nat.reduceEqDiff, Nat.succ_ne_self, Nat.reduceAdd, Nat.reduceMul, Nat.reduceSub, Nat.reduceBEq, Nat.reduceLT, Nat.reduceLeDiff, Int.cast_ofNat_Int, Int.reduceToNat, Int.reduceLT, Int.reduceLE, Int.reduceGE, Int.reduceGT, Int.reduceEq, Int.reduceNe, Int.reduceAdd, Int.reduceSub, Int.reduceNeg, decide_true, decide_false, Int.toNat_natCast, reduceCtorEq, List.nil_append, List.cons_append, AV.boxy, AV.cells, List.length_cons, List.length_nil, Nat.beq_refl, AOp.cl, ↓OW_guard, ↓DW_guard, KDW_0, KDW_1, KDW_2, OWskip_eq, DWskip_eq, fillA, setAt, DChk, DAt, stepA, ble_dec, beq_dec, Bool.and_self, Bool.and_true, Bool.true_and, Bool.and_false, Bool.false_and, List.take_succ_cons, List.take_zero, List.drop_succ_cons, List.drop_zero, List.take_nil, List.drop_nil, List.append_nil, eqAV, eqAVL, BEq.rfl, eqA, eqD, sameS, Option.map, Option.isNone, addrA, wrap64, gt_iff_lt, ge_iff_le, Int.lt_irrefl, Int.le_refl]
            refine CW.mono c_known ?_
            rintro u H4 ⟨rfl, rfl⟩
            simp -implicitDefEqProofs only [↓WP_seq, ↓WP_skip, ↓WP_region, ↓WP_dregion, ↓WP_cond, ↓WP_block, ↓WP_exit, ↓WP_ret, ↓OW_nil, ↓OW_cons, ↓DW_nil, ↓DW_cons, ↓XW_call, XW, exA, KO_eq, KD_eq, OptK_some, EvK_some, GW2_true, GW2_false, KS_normal, KS_ret, KS_exit, KB_normal, KB_ret, KB_exit, CP2_bool, RP_ret, RP_normal, putA_some, putA_none, ev_t, ev_c, evs, evo, wantA, initA, resA, Tr.get_set, vl, chkOk, cond_true, cond_false, Nat.add_zero, Nat.mul_one, Nat.one_mul, Nat.zero_add, Nat.zero_mul, aggOf, pInt, binA, unA, intA, beq_true, beq_false, Bool.not_true, Bool.not_false, Bool.not_eq_true, and_self, and_true, true_and, ↓reduceIte, reduceIte, Nat.reduceEqDiff, Nat.succ_ne_self, Nat.reduceAdd, Nat.reduceMul, Nat.reduceSub, Nat.reduceBEq, Nat.reduceLT, Nat.reduceLeDiff, Int.cast_ofNat_Int, Int.reduceToNat, Int.reduceLT, Int.reduceLE, Int.reduceGE, Int.reduceGT, Int.reduceEq, Int.reduceNe, Int.reduceAdd, Int.reduceSub, Int.reduceNeg, decide_true, decide_false, Int.toNat_natCast, reduceCtorEq, List.nil_append, List.cons_append, AV.boxy, AV.cells, List.length_cons, List.length_nil, Nat.beq_refl, AOp.cl, ↓OW_guard, ↓DW_guard, KDW_0, KDW_1, KDW_2, OWskip_eq, DWskip_eq, fillA, setAt, DChk, DAt, stepA, ble_dec, beq_dec, Bool.and_self, Bool.and_true, Bool.true_and, Bool.and_false, Bool.false_and, List.take_succ_cons, List.take_zero, List.drop_succ_cons, List.drop_zero, List.take_nil, List.drop_nil, List.append_nil, eqAV, eqAVL, BEq.rfl, eqA, eqD, sameS, Option.map, Option.isNone, addrA, wrap64, gt_iff_lt, ge_iff_le, Int.lt_irrefl, Int.le_refl]
          · have hi2' : ¬ (i : Int) < 80 := by omega
            simp -implicitDefEqProofs only [g1, g5, g6, g7, g8, g10, g11, hi1', hi2', Bool.false_eq_true, ↓WP_seq, ↓WP_skip, ↓WP_region, ↓WP_dregion, ↓WP_cond, ↓WP_block, ↓WP_exit, ↓WP_ret, ↓OW_nil, ↓OW_cons, ↓DW_nil, ↓DW_cons, ↓XW_call, XW, exA, KO_eq, KD_eq, OptK_some, EvK_some, GW2_true, GW2_false, KS_normal, KS_ret, KS_exit, KB_normal, KB_ret, KB_exit, CP2_bool, RP_ret, RP_normal, putA_some, putA_none, ev_t, ev_c, evs, evo, wantA, initA, resA, Tr.get_set, vl, chkOk, cond_true, cond_false, Nat.add_zero, Nat.mul_one, Nat.one_mul, Nat.zero_add, Nat.zero_mul, aggOf, pInt, binA, unA, intA, beq_true, beq_false, Bool.not_true, Bool.not_false, Bool.not_eq_true, and_self, and_true, true_and, ↓reduceIte, reduceIte, Nat.reduceEqDiff, Nat.succ_ne_self, Nat.reduceAdd, Nat.reduceMul, Nat.reduceSub, Nat.reduceBEq, Nat.reduceLT, Nat.reduceLeDiff, Int.cast_ofNat_Int, Int.reduceToNat, Int.reduceLT, Int.reduceLE, Int.reduceGE, Int.reduceGT, Int.reduceEq, Int.reduceNe, Int.reduceAdd, Int.reduceSub, Int.reduceNeg, decide_true, decide_false, Int.toNat_natCast, reduceCtorEq, List.nil_append, List.cons_append, AV.boxy, AV.cells, List.length_cons, List.length_nil, Nat.beq_refl, AOp.cl, ↓OW_guard, ↓DW_guard, KDW_0, KDW_1, KDW_2, OWskip_eq, DWskip_eq, fillA, setAt, DChk, DAt, stepA, ble_dec, beq_dec, Bool.and_self, Bool.and_true, Bool.true_and, Bool.and_false, Bool.false_and, List.take_succ_cons, List.take_zero, List.drop_succ_cons, List.drop_zero, List.take_nil, List.drop_nil, List.append_nil, eqAV, eqAVL, BEq.rfl, eqA, eqD, sameS, Option.map, Option.isNone, addrA, wrap64, gt_iff_lt, ge_iff_le, Int.lt_irrefl, Int.le_refl]
            refine CW.mono c_known ?_
            rintro u H4 ⟨rfl, rfl⟩
            simp -implicitDefEqProofs only [↓WP_seq, ↓WP_skip, ↓WP_region, ↓WP_dregion, ↓WP_cond, ↓WP_block, ↓WP_exit, ↓WP_ret, ↓OW_nil, ↓OW_cons, ↓DW_nil, ↓DW_cons, ↓XW_call, XW, exA, KO_eq, KD_eq, OptK_some, EvK_some, GW2_true, GW2_false, KS_normal, KS_ret, KS_exit, KB_normal, KB_ret, KB_exit, CP2_bool, RP_ret, RP_normal, putA_some, putA_none, ev_t, ev_c, evs, evo, wantA, initA, resA, Tr.get_set, vl, chkOk, cond_true, cond_false, Nat.add_zero, Nat.mul_one, Nat.one_mul, Nat.zero_add, Nat.zero_mul, aggOf, pInt, binA, unA, intA, beq_true, beq_false, Bool.not_true, Bool.not_false, Bool.not_eq_true, and_self, and_true, true_and, ↓reduceIte, reduceIte, Nat.reduceEqDiff, Nat.succ_ne_self, Nat.reduceAdd, Nat.reduceMul, Nat.reduceSub, Nat.reduceBEq, Nat.reduceLT, Nat.reduceLeDiff, Int.cast_ofNat_Int, Int.reduceToNat, Int.reduceLT, Int.reduceLE, Int.reduceGE, Int.reduceGT, Int.reduceEq, Int.reduceNe, Int.reduceAdd, Int.reduceSub, Int.reduceNeg, decide_true, decide_false, Int.toNat_natCast, reduceCtorEq, List.nil_append, List.cons_append, AV.boxy, AV.cells, List.length_cons, List.length_nil, Nat.beq_refl, AOp.cl, ↓OW_guard, ↓DW_guard, KDW_0, KDW_1, KDW_2, OWskip_eq, DWskip_eq, fillA, setAt, DChk, DAt, stepA, ble_dec, beq_dec, Bool.and_self, Bool.and_true, Bool.true_and, Bool.and_false, Bool.false_and, List.take_succ_cons, List.take_zero, List.drop_succ_cons, List.drop_zero, List.take_nil, List.drop_nil, List.append_nil, eqAV, eqAVL, BEq.rfl, eqA, eqD, sameS, Option.map, Option.isNone, addrA, wrap64, gt_iff_lt, ge_iff_le, Int.lt_irrefl, Int.le_refl]
        · have hi1' : ¬ (i : Int) < (l.length : Int) := by omega
          simp -implicitDefEqProofs only [g1, g5, g6, g7, g8, g10, g11, hi1', Bool.false_eq_true, ↓WP_seq, ↓WP_skip, ↓WP_region, ↓WP_dregion, ↓WP_cond, ↓WP_block, ↓WP_exit, ↓WP_ret, ↓OW_nil, ↓OW_cons, ↓DW_nil, ↓DW_cons, ↓XW_call, XW, exA, KO_eq, KD_eq, OptK_some, EvK_some, GW2_true, GW2_false, KS_normal, KS_ret, KS_exit, KB_normal, KB_ret, KB_exit, CP2_bool, RP_ret, RP_normal, putA_some, putA_none, ev_t, ev_c, evs, evo, wantA, initA, resA, Tr.get_set, vl, chkOk, cond_true, cond_false, Nat.add_zero, Nat.mul_one, Nat.one_mul, Nat.zero_add, Nat.zero_mul, aggOf, pInt, binA, unA, intA, beq_true, beq_false, Bool.not_true, Bool.not_false, Bool.not_eq_true, and_self, and_true, true_and, ↓reduceIte, reduceIte, Nat.reduceEqDiff, Nat.succ_ne_self, Nat.reduceAdd, Nat.reduceMul, Nat.reduceSub, Nat.reduceBEq, Nat.reduceLT, Nat.reduceLeDiff, Int.cast_ofNat_Int, Int.reduceToNat, Int.reduceLT, Int.reduceLE, Int.reduceGE, Int.reduceGT, Int.reduceEq, Int.reduceNe, Int.reduceAdd, Int.reduceSub, Int.reduceNeg, decide_true, decide_false, Int.toNat_natCast, reduceCtorEq, List.nil_append, List.cons_append, AV.boxy, AV.cells, List.length_cons, List.length_nil, Nat.beq_refl, AOp.cl, ↓OW_guard, ↓DW_guard, KDW_0, KDW_1, KDW_2, OWskip_eq, DWskip_eq, fillA, setAt, DChk, DAt, stepA, ble_dec, beq_dec, Bool.and_self, Bool.and_true, Bool.true_and, Bool.and_false, Bool.false_and, List.take_succ_cons, List.take_zero, List.drop_succ_cons, List.drop_zero, List.take_nil, List.drop_nil, List.append_nil, eqAV, eqAVL, BEq.rfl, eqA, eqD, sameS, Option.map, Option.isNone, addrA, wrap64, gt_iff_lt, ge_iff_le, Int.lt_irrefl, Int.le_refl]
          refine CW.mono c_known ?_
          rintro u H4 ⟨rfl, rfl⟩
          simp -implicitDefEqProofs only [↓WP_seq, ↓WP_skip, ↓WP_region, ↓WP_dregion, ↓WP_cond, ↓WP_block, ↓WP_exit, ↓WP_ret, ↓OW_nil, ↓OW_cons, ↓DW_nil, ↓DW_cons, ↓XW_call, XW, exA, KO_eq, KD_eq, OptK_some, EvK_some, GW2_true, GW2_false, KS_normal, KS_ret, KS_exit, KB_normal, KB_ret, KB_exit, CP2_bool, RP_ret, RP_normal, putA_some, putA_none, ev_t, ev_c, evs, evo, wantA, initA, resA, Tr.get_set, vl, chkOk, cond_true, cond_false, Nat.add_zero, Nat.mul_one, Nat.one_mul, Nat.zero_add, Nat.zero_mul, aggOf, pInt, binA, unA, intA, beq_true, beq_false, Bool.not_true, Bool.not_false, Bool.not_eq_true, and_self, and_true, true_and, ↓reduceIte, reduceIte, Nat.reduceEqDiff, Nat.succ_ne_self, Nat.reduceAdd, Nat.reduceMul, Nat.reduceSub, Nat.reduceBEq, Nat.reduceLT, Nat.reduceLeDiff, Int.cast_ofNat_Int, Int.reduceToNat, Int.reduceLT, Int.reduceLE, Int.reduceGE, Int.reduceGT, Int.reduceEq, Int.reduceNe, Int.reduceAdd, Int.reduceSub, Int.reduceNeg, decide_true, decide_false, Int.toNat_natCast, reduceCtorEq, List.nil_append, List.cons_append, AV.boxy, AV.cells, List.length_cons, List.length_nil, Nat.beq_refl, AOp.cl, ↓OW_guard, ↓DW_guard, KDW_0, KDW_1, KDW_2, OWskip_eq, DWskip_eq, fillA, setAt, DChk, DAt, stepA, ble_dec, beq_dec, Bool.and_self, Bool.and_true, Bool.true_and, Bool.and_false, Bool.false_and, List.take_succ_cons, List.take_zero, List.drop_succ_cons, List.drop_zero, List.take_nil, List.drop_nil, List.append_nil, eqAV, eqAVL, BEq.rfl, eqA, eqD, sameS, Option.map, Option.isNone, addrA, wrap64, gt_iff_lt, ge_iff_le, Int.lt_irrefl, Int.le_refl]
  refine WP_loop (fun m fr H' => ∃ (p : Nat) (s : QS), m + p = 6 ∧ p ≤ N ∧ UA H (.slice a s0 N cl) (.slice a1 s1 l.length cl1) p s fr H') 6 ?_ ?_
  · refine ⟨0, QS0, rfl, by omega, ⟨Inv0, fun _ => rfl, rfl, rfl, rfl, rfl, rfl⟩, ?_, c1.trans (c2.trans c3), ?_, ?_, rfl, ?_⟩
    · have q1 := (new_P (H := H)).step c2.1 (c2.keep (by rw [en1]; omega) (by simp)) (by simp)
      have q2 := q1.step c3.1 (c3.keep (by rw [en2]; omega) (by simp)) (by simp)
      exact ⟨_, _, q2, fun y hy => ⟨by rw [en3]; omega, by omega, by simp⟩⟩
    · have b0 := Blk.newRow (H.newRow zP) z6 (ofZ z6) fun i v hv => by simp [ofZ, hv]
      exact ⟨_, b0.keep' c3.1 (c3.keep (by rw [en1, en2]; omega) (by simp)), by intro z hz; omega⟩
    · have b0 := Blk.newRow ((H.newRow zP).newRow z6) b6 (fun _ => .bool false) fun i v hv => by
        have := List.mem_of_getElem? hv
        simp [b6] at this
        exact this.symm
      exact ⟨_, b0, fun _ _ => rfl⟩
    · simp -implicitDefEqProofs only [en2, ↓WP_seq, ↓WP_skip, ↓WP_region, ↓WP_dregion, ↓WP_cond, ↓WP_block, ↓WP_exit, ↓WP_ret, ↓OW_nil, ↓OW_cons, ↓DW_nil, ↓DW_cons, ↓XW_call, XW, exA, KO_eq, KD_eq, OptK_some, EvK_some, GW2_true, GW2_false, KS_normal, KS_ret, KS_exit, KB_normal, KB_ret, KB_exit, CP2_bool, RP_ret, RP_normal, putA_some, putA_none, ev_t, ev_c, evs, evo, wantA, initA, resA, Tr.get_set, vl, chkOk, cond_true, cond_false, Nat.add_zero, Nat.mul_one, Nat.one_mul, Nat.zero_add, Nat.zero_mul, aggOf, pInt, binA, unA, intA, beq_true, beq_false, Bool.not_true, Bool.not_false, Bool.not_eq_true, and_self, and_true, true_and, ↓reduceIte, reduceIte, Nat.reduceEqDiff, Nat.succ_ne_self, Nat.reduceAdd, Nat.reduceMul, Nat.reduceSub, Nat.reduceBEq, Nat.reduceLT, Nat.reduceLeDiff, Int.cast_ofNat_Int, Int.reduceToNat, Int.reduceLT, Int.reduceLE, Int.reduceGE, Int.reduceGT, Int.reduceEq, Int.reduceNe, Int.reduceAdd, Int.reduceSub, Int.reduceNeg, decide_true, decide_false, Int.toNat_natCast, reduceCtorEq, List.nil_append, List.cons_append, AV.boxy, AV.cells, List.length_cons, List.length_nil, Nat.beq_refl, AOp.cl, ↓OW_guard, ↓DW_guard, KDW_0, KDW_1, KDW_2, OWskip_eq, DWskip_eq, fillA, setAt, DChk, DAt, stepA, ble_dec, beq_dec, Bool.and_self, Bool.and_true, Bool.true_and, Bool.and_false, Bool.false_and, List.take_succ_cons, List.take_zero, List.drop_succ_cons, List.drop_zero, List.take_nil, List.drop_nil, List.append_nil, eqAV, eqAVL, BEq.rfl, eqA, eqD, sameS, Option.map, Option.isNone, addrA, wrap64, gt_iff_lt, ge_iff_le, Int.lt_irrefl, Int.le_refl]
  · rintro m fr H1 ⟨p, s, hmp, hpN, urg, solo, ch, ⟨fl, bl, hfl⟩, ⟨fa, ba, hfa⟩, hr5, g0, g1, g5, g6, g7, g8, g9⟩
    by_cases hlt : p < N ∧ p < 6
    · have hlt1 : (p : Int) < (N : Int) := by omega
      have hlt2 : (p : Int) < 6 := by omega
      have hp0 : (0 : Int) ≤ (p : Int) := by omega
      have hw : IntKind.i64.wrap ((p : Int) + 1) = ((p + 1 : Nat) : Int) := by rw [wrap64 (by omega) (by omega)]; omega
      obtain ⟨y, o, ea, e4⟩ := hrd (by omega)
      subst ea
      have ld : loadA H1 y (o + p) 1 = some [.int .i64 (f p)] := by
        have r : Rd H1 y o ((List.range N).map fun j => iv (f j)) := Rd.keep e4 ch.1 (ch.keep e4.1 (by simp))
        exact r.one (by rw [List.getElem?_map, List.getElem?_range (by omega)]; rfl)
      obtain ⟨k, hk4, hk⟩ := and3v_lt (f p)
      obtain ⟨H2, st, bl2, n2, k2⟩ := bl.store (i := p) (by omega) (.int .i64 k)
      have ld2 := bl2.load (i := p) (by omega)
      rw [upd_same] at ld2
      have hl1 := ch.1
      have solo2 : Solo (fun y => y < H.next ∨ y = H.next + 1 ∨ y = H.next + 2 ∨ y = H.next + 2) H2 H.next s := by
        have hK : ∀ y, (y < H.next ∨ y = H.next + 1 ∨ y = H.next + 2 ∨ y = H.next + 2) → y < H1.next := by
          obtain ⟨fx, Dx, -, hx⟩ := solo
          exact fun y hy => (hx y hy).1
        refine solo.step (by omega) (fun y hy hn => k2 y fun e => hn (.inr (.inl e))) fun y hy => ⟨by have := hK y hy; omega, .inl hy⟩
      have hkk : okR s (p : Int) (k : Int) = true := by
        have := urg.inn p
        simp only [okR, Int.toNat_natCast, this]
        simp; omega
      simp -implicitDefEqProofs only [g0, g1, g5, g6, g7, g8, g9, hlt1, hlt2, hp0, ld, h3v, hk, st, ld2, ↓WP_seq, ↓WP_skip, ↓WP_region, ↓WP_dregion, ↓WP_cond, ↓WP_block, ↓WP_exit, ↓WP_ret, ↓OW_nil, ↓OW_cons, ↓DW_nil, ↓DW_cons, ↓XW_call, XW, exA, KO_eq, KD_eq, OptK_some, EvK_some, GW2_true, GW2_false, KS_normal, KS_ret, KS_exit, KB_normal, KB_ret, KB_exit, CP2_bool, RP_ret, RP_normal, putA_some, putA_none, ev_t, ev_c, evs, evo, wantA, initA, resA, Tr.get_set, vl, chkOk, cond_true, cond_false, Nat.add_zero, Nat.mul_one, Nat.one_mul, Nat.zero_add, Nat.zero_mul, aggOf, pInt, binA, unA, intA, beq_true, beq_false, Bool.not_true, Bool.not_false, Bool.not_eq_true, and_self, and_true, true_and, ↓reduceIte, reduceIte, Nat.reduceEqDiff, Nat.succ_ne_self, Nat.reduceAdd, Nat.reduceMul, Nat.reduceSub, Nat.reduceBEq, Nat.reduceLT, Nat.reduceLeDiff, Int.cast_ofNat_Int, Int.reduceToNat, Int.reduceLT, Int.reduceLE, Int.reduceGE, Int.reduceGT, Int.reduceEq, Int.reduceNe, Int.reduceAdd, Int.reduceSub, Int.reduceNeg, decide_true, decide_false, Int.toNat_natCast, reduceCtorEq, List.nil_append, List.cons_append, AV.boxy, AV.cells, List.length_cons, List.length_nil, Nat.beq_refl, AOp.cl, ↓OW_guard, ↓DW_guard, KDW_0, KDW_1, KDW_2, OWskip_eq, DWskip_eq, fillA, setAt, DChk, DAt, stepA, ble_dec, beq_dec, Bool.and_self, Bool.and_true, Bool.true_and, Bool.and_false, Bool.false_and, List.take_succ_cons, List.take_zero, List.drop_succ_cons, List.drop_zero, List.take_nil, List.drop_nil, List.append_nil, eqAV, eqAVL, BEq.rfl, eqA, eqD, sameS, Option.map, Option.isNone, addrA, wrap64, gt_iff_lt, ge_iff_le, Int.lt_irrefl, Int.le_refl]
      obtain ⟨fq, D, hq, nq⟩ := solo2.on
      refine CW.mono (c_Ready hq urg.inv (p : Int) (k : Int)) ?_
      rintro u H3 ⟨rfl, hg⟩
      obtain ⟨solo3, k3⟩ := nq _ _ hg
      have hn3 := hg.2.1
      obtain ⟨t1, t2, t3⟩ := mReady_ok hkk
      obtain ⟨t4, t5, t6⟩ := mReady_hi hkk
      simp -implicitDefEqProofs only [g0, g1, g5, g6, g7, g8, g9, hkk, hw, Bool.false_eq_true, ↓WP_seq, ↓WP_skip, ↓WP_region, ↓WP_dregion, ↓WP_cond, ↓WP_block, ↓WP_exit, ↓WP_ret, ↓OW_nil, ↓OW_cons, ↓DW_nil, ↓DW_cons, ↓XW_call, XW, exA, KO_eq, KD_eq, OptK_some, EvK_some, GW2_true, GW2_false, KS_normal, KS_ret, KS_exit, KB_normal, KB_ret, KB_exit, CP2_bool, RP_ret, RP_normal, putA_some, putA_none, ev_t, ev_c, evs, evo, wantA, initA, resA, Tr.get_set, vl, chkOk, cond_true, cond_false, Nat.add_zero, Nat.mul_one, Nat.one_mul, Nat.zero_add, Nat.zero_mul, aggOf, pInt, binA, unA, intA, beq_true, beq_false, Bool.not_true, Bool.not_false, Bool.not_eq_true, and_self, and_true, true_and, ↓reduceIte, reduceIte, Nat.reduceEqDiff, Nat.succ_ne_self, Nat.reduceAdd, Nat.reduceMul, Nat.reduceSub, Nat.reduceBEq, Nat.reduceLT, Nat.reduceLeDiff, Int.cast_ofNat_Int, Int.reduceToNat, Int.reduceLT, Int.reduceLE, Int.reduceGE, Int.reduceGT, Int.reduceEq, Int.reduceNe, Int.reduceAdd, Int.reduceSub, Int.reduceNeg, decide_true, decide_false, Int.toNat_natCast, reduceCtorEq, List.nil_append, List.cons_append, AV.boxy, AV.cells, List.length_cons, List.length_nil, Nat.beq_refl, AOp.cl, ↓OW_guard, ↓DW_guard, KDW_0, KDW_1, KDW_2, OWskip_eq, DWskip_eq, fillA, setAt, DChk, DAt, stepA, ble_dec, beq_dec, Bool.and_self, Bool.and_true, Bool.true_and, Bool.and_false, Bool.false_and, List.take_succ_cons, List.take_zero, List.drop_succ_cons, List.drop_zero, List.take_nil, List.drop_nil, List.append_nil, eqAV, eqAVL, BEq.rfl, eqA, eqD, sameS, Option.map, Option.isNone, addrA, wrap64, gt_iff_lt, ge_iff_le, Int.lt_irrefl, Int.le_refl]
      refine ⟨m - 1, by omega, p + 1, mReady s p k, by omega, by omega, ⟨urg.inv.mReady _ _, fun z => ?_, by rw [t4 4 (by omega), urg.w4], by rw [t4 6 (by omega), urg.w6], by rw [t4 7 (by omega), urg.w7], by rw [t2, urg.sl], by rw [t5, urg.c1]⟩, solo3, ⟨by omega, fun y hy => ?_⟩, ⟨_, bl2.keep' hn3 (k3 _ (.inr (.inl rfl))), fun z hz => ?_⟩, ⟨fa, ?_, hfa⟩, by rw [t4 5 (by omega), hr5], ?_⟩
      · rw [t3]
        by_cases e : z = p
        · subst e; rw [upd_same]; simp
        · rw [upd_ne e, urg.inn z]
          by_cases e2 : z < p
          · simp [e2]; omega
          · have : ¬ z < p + 1 := by omega
            simp [e2, this]
      · have e : H3.get y = H.get y := by rw [k3 y (.inl hy), k2 y (by omega), ch.keep hy (by simp)]
        exact ⟨.inl e, fun _ => e⟩
      · rw [t6]
        by_cases e : z = p
        · subst e; rw [upd_same, upd_same]
        · rw [upd_ne e, upd_ne e]; exact hfl z (by omega)
      · have ba2 : Blk H2 (H.next + 2) 6 fa := ba.keep' (by omega) (k2 _ (by omega))
        exact ba2.keep' hn3 (k3 _ (.inr (.inr (.inl rfl))))
      · simp -implicitDefEqProofs only [g0, g1, g5, g6, g7, g8, g9, ↓WP_seq, ↓WP_skip, ↓WP_region, ↓WP_dregion, ↓WP_cond, ↓WP_block, ↓WP_exit, ↓WP_ret, ↓OW_nil, ↓OW_cons, ↓DW_nil, ↓DW_cons, ↓XW_call, XW, exA, KO_eq, KD_eq, OptK_some, EvK_some, GW2_true, GW2_false, KS_normal, KS_ret, KS_exit, KB_normal, KB_ret, KB_exit, CP2_bool, RP_ret, RP_normal, putA_some, putA_none, ev_t, ev_c, evs, evo, wantA, initA, resA, Tr.get_set, vl, chkOk, cond_true, cond_false, Nat.add_zero, Nat.mul_one, Nat.one_mul, Nat.zero_add, Nat.zero_mul, aggOf, pInt, binA, unA, intA, beq_true, beq_false, Bool.not_true, Bool.not_false, Bool.not_eq_true, and_self, and_true, true_and, ↓reduceIte, reduceIte, Nat.reduceEqDiff, Nat.succ_ne_self, Nat.reduceAdd, Nat.reduceMul, Nat.reduceSub, Nat.reduceBEq, Nat.reduceLT, Nat.reduceLeDiff, Int.cast_ofNat_Int, Int.reduceToNat, Int.reduceLT, Int.reduceLE, Int.reduceGE, Int.reduceGT, Int.reduceEq, Int.reduceNe, Int.reduceAdd, Int.reduceSub, Int.reduceNeg, decide_true, decide_false, Int.toNat_natCast, reduceCtorEq, List.nil_append, List.cons_append, AV.boxy, AV.cells, List.length_cons, List.length_nil, Nat.beq_refl, AOp.cl, ↓OW_guard, ↓DW_guard, KDW_0, KDW_1, KDW_2, OWskip_eq, DWskip_eq, fillA, setAt, DChk, DAt, stepA, ble_dec, beq_dec, Bool.and_self, Bool.and_true, Bool.true_and, Bool.and_false, Bool.false_and, List.take_succ_cons, List.take_zero, List.drop_succ_cons, List.drop_zero, List.take_nil, List.drop_nil, List.append_nil, eqAV, eqAVL, BEq.rfl, eqA, eqD, sameS, Option.map, Option.isNone, addrA, wrap64, gt_iff_lt, ge_iff_le, Int.lt_irrefl, Int.le_refl]
    · by_cases h1 : p < N
      · have h1' : (p : Int) < (N : Int) := by omega
        have h2' : ¬ (p : Int) < 6 := by omega
        simp -implicitDefEqProofs only [g0, g1, g5, g6, g7, g8, g9, h1', h2', Bool.false_eq_true, ↓WP_seq, ↓WP_skip, ↓WP_region, ↓WP_dregion, ↓WP_cond, ↓WP_block, ↓WP_exit, ↓WP_ret, ↓OW_nil, ↓OW_cons, ↓DW_nil, ↓DW_cons, ↓XW_call, XW, exA, KO_eq, KD_eq, OptK_some, EvK_some, GW2_true, GW2_false, KS_normal, KS_ret, KS_exit, KB_normal, KB_ret, KB_exit, CP2_bool, RP_ret, RP_normal, putA_some, putA_none, ev_t, ev_c, evs, evo, wantA, initA, resA, Tr.get_set, vl, chkOk, cond_true, cond_false, Nat.add_zero, Nat.mul_one, Nat.one_mul, Nat.zero_add, Nat.zero_mul, aggOf, pInt, binA, unA, intA, beq_true, beq_false, Bool.not_true, Bool.not_false, Bool.not_eq_true, and_self, and_true, true_and, ↓reduceIte, reduceIte, Nat.reduceEqDiff, Nat.succ_ne_self, Nat.reduceAdd, Nat.reduceMul, Nat.reduceSub, Nat.reduceBEq, Nat.reduceLT, Nat.reduceLeDiff, Int.cast_ofNat_Int, Int.reduceToNat, Int.reduceLT, Int.reduceLE, Int.reduceGE, Int.reduceGT, Int.reduceEq, Int.reduceNe, Int.reduceAdd, Int.reduceSub, Int.reduceNeg, decide_true, decide_false, Int.toNat_natCast, reduceCtorEq, List.nil_append, List.cons_append, AV.boxy, AV.cells, List.length_cons, List.length_nil, Nat.beq_refl, AOp.cl, ↓OW_guard, ↓DW_guard, KDW_0, KDW_1, KDW_2, OWskip_eq, DWskip_eq, fillA, setAt, DChk, DAt, stepA, ble_dec, beq_dec, Bool.and_self, Bool.and_true, Bool.true_and, Bool.and_false, Bool.false_and, List.take_succ_cons, List.take_zero, List.drop_succ_cons, List.drop_zero, List.take_nil, List.drop_nil, List.append_nil, eqAV, eqAVL, BEq.rfl, eqA, eqD, sameS, Option.map, Option.isNone, addrA, wrap64, gt_iff_lt, ge_iff_le, Int.lt_irrefl, Int.le_refl]
        refine ⟨p, s, by omega, urg, solo, ch, ⟨fl, bl, hfl⟩, ⟨fa, ba, hfa⟩, hr5, ?_⟩
        simp -implicitDefEqProofs only [g0, g1, g5, g6, g7, g8, g9, ↓WP_seq, ↓WP_skip, ↓WP_region, ↓WP_dregion, ↓WP_cond, ↓WP_block, ↓WP_exit, ↓WP_ret, ↓OW_nil, ↓OW_cons, ↓DW_nil, ↓DW_cons, ↓XW_call, XW, exA, KO_eq, KD_eq, OptK_some, EvK_some, GW2_true, GW2_false, KS_normal, KS_ret, KS_exit, KB_normal, KB_ret, KB_exit, CP2_bool, RP_ret, RP_normal, putA_some, putA_none, ev_t, ev_c, evs, evo, wantA, initA, resA, Tr.get_set, vl, chkOk, cond_true, cond_false, Nat.add_zero, Nat.mul_one, Nat.one_mul, Nat.zero_add, Nat.zero_mul, aggOf, pInt, binA, unA, intA, beq_true, beq_false, Bool.not_true, Bool.not_false, Bool.not_eq_true, and_self, and_true, true_and, ↓reduceIte, reduceIte, Nat.reduceEqDiff, Nat.succ_ne_self, Nat.reduceAdd, Nat.reduceMul, Nat.reduceSub, Nat.reduceBEq, Nat.reduceLT, Nat.reduceLeDiff, Int.cast_ofNat_Int, Int.reduceToNat, Int.reduceLT, Int.reduceLE, Int.reduceGE, Int.reduceGT, Int.reduceEq, Int.reduceNe, Int.reduceAdd, Int.reduceSub, Int.reduceNeg, decide_true, decide_false, Int.toNat_natCast, reduceCtorEq, List.nil_append, List.cons_append, AV.boxy, AV.cells, List.length_cons, List.length_nil, Nat.beq_refl, AOp.cl, ↓OW_guard, ↓DW_guard, KDW_0, KDW_1, KDW_2, OWskip_eq, DWskip_eq, fillA, setAt, DChk, DAt, stepA, ble_dec, beq_dec, Bool.and_self, Bool.and_true, Bool.true_and, Bool.and_false, Bool.false_and, List.take_succ_cons, List.take_zero, List.drop_succ_cons, List.drop_zero, List.take_nil, List.drop_nil, List.append_nil, eqAV, eqAVL, BEq.rfl, eqA, eqD, sameS, Option.map, Option.isNone, addrA, wrap64, gt_iff_lt, ge_iff_le, Int.lt_irrefl, Int.le_refl]
      · have h1' : ¬ (p : Int) < (N : Int) := by omega
        simp -implicitDefEqProofs only [g0, g1, g5, g6, g7, g8, g9, h1', Bool.false_eq_true, ↓WP_seq, ↓WP_skip, ↓WP_region, ↓WP_dregion, ↓WP_cond, ↓WP_block, ↓WP_exit, ↓WP_ret, ↓OW_nil, ↓OW_cons, ↓DW_nil, ↓DW_cons, ↓XW_call, XW, exA, KO_eq, KD_eq, OptK_some, EvK_some, GW2_true, GW2_false, KS_normal, KS_ret, KS_exit, KB_normal, KB_ret, KB_exit, CP2_bool, RP_ret, RP_normal, putA_some, putA_none, ev_t, ev_c, evs, evo, wantA, initA, resA, Tr.get_set, vl, chkOk, cond_true, cond_false, Nat.add_zero, Nat.mul_one, Nat.one_mul, Nat.zero_add, Nat.zero_mul, aggOf, pInt, binA, unA, intA, beq_true, beq_false, Bool.not_true, Bool.not_false, Bool.not_eq_true, and_self, and_true, true_and, ↓reduceIte, reduceIte, Nat.reduceEqDiff, Nat.succ_ne_self, Nat.reduceAdd, Nat.reduceMul, Nat.reduceSub, Nat.reduceBEq, Nat.reduceLT, Nat.reduceLeDiff, Int.cast_ofNat_Int, Int.reduceToNat, Int.reduceLT, Int.reduceLE, Int.reduceGE, Int.reduceGT, Int.reduceEq, Int.reduceNe, Int.reduceAdd, Int.reduceSub, Int.reduceNeg, decide_true, decide_false, Int.toNat_natCast, reduceCtorEq, List.nil_append, List.cons_append, AV.boxy, AV.cells, List.length_cons, List.length_nil, Nat.beq_refl, AOp.cl, ↓OW_guard, ↓DW_guard, KDW_0, KDW_1, KDW_2, OWskip_eq, DWskip_eq, fillA, setAt, DChk, DAt, stepA, ble_dec, beq_dec, Bool.and_self, Bool.and_true, Bool.true_and, Bool.and_false, Bool.false_and, List.take_succ_cons, List.take_zero, List.drop_succ_cons, List.drop_zero, List.take_nil, List.drop_nil, List.append_nil, eqAV, eqAVL, BEq.rfl, eqA, eqD, sameS, Option.map, Option.isNone, addrA, wrap64, gt_iff_lt, ge_iff_le, Int.lt_irrefl, Int.le_refl]
        refine ⟨p, s, by omega, urg, solo, ch, ⟨fl, bl, hfl⟩, ⟨fa, ba, hfa⟩, hr5, ?_⟩
        simp -implicitDefEqProofs only [g0, g1, g5, g6, g7, g8, g9, ↓WP_seq, ↓WP_skip, ↓WP_region, ↓WP_dregion, ↓WP_cond, ↓WP_block, ↓WP_exit, ↓WP_ret, ↓OW_nil, ↓OW_cons, ↓DW_nil, ↓DW_cons, ↓XW_call, XW, exA, KO_eq, KD_eq, OptK_some, EvK_some, GW2_true, GW2_false, KS_normal, KS_ret, KS_exit, KB_normal, KB_ret, KB_exit, CP2_bool, RP_ret, RP_normal, putA_some, putA_none, ev_t, ev_c, evs, evo, wantA, initA, resA, Tr.get_set, vl, chkOk, cond_true, cond_false, Nat.add_zero, Nat.mul_one, Nat.one_mul, Nat.zero_add, Nat.zero_mul, aggOf, pInt, binA, unA, intA, beq_true, beq_false, Bool.not_true, Bool.not_false, Bool.not_eq_true, and_self, and_true, true_and, ↓reduceIte, reduceIte, Nat.reduceEqDiff, Nat.succ_ne_self, Nat.reduceAdd, Nat.reduceMul, Nat.reduceSub, Nat.reduceBEq, Nat.reduceLT, Nat.reduceLeDiff, Int.cast_ofNat_Int, Int.reduceToNat, Int.reduceLT, Int.reduceLE, Int.reduceGE, Int.reduceGT, Int.reduceEq, Int.reduceNe, Int.reduceAdd, Int.reduceSub, Int.reduceNeg, decide_true, decide_false, Int.toNat_natCast, reduceCtorEq, List.nil_append, List.cons_append, AV.boxy, AV.cells, List.length_cons, List.length_nil, Nat.beq_refl, AOp.cl, ↓OW_guard, ↓DW_guard, KDW_0, KDW_1, KDW_2, OWskip_eq, DWskip_eq, fillA, setAt, DChk, DAt, stepA, ble_dec, beq_dec, Bool.and_self, Bool.and_true, Bool.true_and, Bool.and_false, Bool.false_and, List.take_succ_cons, List.take_zero, List.drop_succ_cons, List.drop_zero, List.take_nil, List.drop_nil, List.append_nil, eqAV, eqAVL, BEq.rfl, eqA, eqD, sameS, Option.map, Option.isNone, addrA, wrap64, gt_iff_lt, ge_iff_le, Int.lt_irrefl, Int.le_refl]
end
end Go.Proofs.Ytldlolpbnfgdeaa.AA
namespace Go.Proofs.Ytldlolpbnfgdeaa.AA
open Go Go.RowKit Go.Proofs.Ytldlolpbnfgdeaa
theorem urgent_call (w : World) {a : Option Addr} {len cap : Nat} {f : Nat → Int} (hr : RowAt w a len cap 1 ((List.range (len * 1)).map fun j => iv (f j))) {a' : Option Addr} {len' cap' : Nat} {f' : Nat → Int} (hr' : RowAt w a' len' cap' 4 ((List.range (len' * 4)).map fun j => iv (f' j))) :
    Calls Try.prog 8 #[.slice a len cap, .slice a' len' cap'] w fun e w' => e = .returned (.bool true) ∧ Kp (fun k => k < w.heap.size) w w' := by
  obtain ⟨ρ, H, v, h1, h2, h3, h4, h5, h6⟩ := add_row (HS.empty w) RO.empty hr
  obtain ⟨ρ', H', v', h1', h2', h3', h4', h5', h6'⟩ := add_row h1 h2 hr'
  rw [Nat.mul_one] at h6
  rw [askc_of] at h6'
  refine law_true (args := [v, v']) (c_urgent (l := (List.range len').map fun i => (f' (i * 4), f' (i * 4 + 1), f' (i * 4 + 2), f' (i * 4 + 3))) (h6.keep h4') (by simpa using h6')) h1' ?_
  simp only [RL]
  exact ⟨_, _, rfl, R.mono h3' _ _ h5, _, _, rfl, h5', rfl⟩
end Go.Proofs.Ytldlolpbnfgdeaa.AA
