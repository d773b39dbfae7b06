/- From the machine to the program. -/
import Derived.Test.YtaihjlemofgokaaGreatRows
import Derived.Test.YtaihjlemofgokaaGreatKHeaH
import Derived.SizedLaws
set_option linter.unusedSimpArgs false
set_option linter.unusedVariables false
namespace Go.Proofs.YtaihjlemofgokaaGreat.AA
open Go Go.RowKit Go.WideShapes
section
variable {T : Type} {enc : TypeId × Value → T} {P : Program} {w : World}
def TW {T : Type} (enc : TypeId × Value → T) (P : Program) (w : World) (t : TypeId) (s : Nat) (cs : List Value) : Prop := cs.length = s ∧ ∃ held n y, DataW.trod enc P w 0 (fun _ => true) held n t cs = some y ∧ (y.1.weights P t).all (· ≤ reachBytes) = true
theorem TW.tp {t : TypeId} {s : Nat} {cs : List Value} (h : TW enc P w t s cs) : TP enc P w t s cs := ⟨h.1, by obtain ⟨-, a, b, c, d, -⟩ := h; exact ⟨a, b, c, d⟩⟩
theorem Adds.of_tp {α : Type} {E : Rep α} {t : TypeId} {s : Nat} (h : Adds w (TP enc P w t s) E) : Adds w (TW enc P w t s) E := fun cs hc => h cs hc.tp
def SlW {α : Type} (E : Rep α) (s b : Nat) : Rep (List α) := fun H az l => SlE E s H az l ∧ az.length * b ≤ 140737488351232
theorem weightsAll_mem {e : TypeId} : ∀ {l : List (DataW T)} {d : DataW T}, d ∈ l → ∀ n ∈ d.weights P e, n ∈ DataW.weightsAll P e l
  | d' :: r, d, hd, n, hn => by
    simp only [DataW.weightsAll, List.mem_append]
    rcases List.mem_cons.1 hd with rfl | h
    · exact Or.inl hn
    · exact Or.inr (weightsAll_mem h n hn)
theorem all_sub {l l' : List Nat} (h : l.all (· ≤ reachBytes) = true) (hs : ∀ n, n ∈ l' → n ∈ l) : l'.all (· ≤ reachBytes) = true := List.all_eq_true.2 fun n hn => List.all_eq_true.1 h n (hs n hn)
theorem adds_sliceW {α : Type} {E : Rep α} {t e : TypeId} {s b : Nat} (ht : P.underlying t = some (.slice e)) (hc : P.cellsOf e = s) (hb : P.bytesOf e = b) (hs : 0 < s) (hE : MonoE E) (hA : Adds w (TW enc P w e s) E) : Adds w (TW enc P w t 1) (SlW E s b) := by
  rintro cs ⟨-, held, fuel, y, h, hw⟩ Z ρ H hS ro
  rcases Go.Deep.open_slice ht h with ⟨rfl, rfl⟩ | ⟨ad, len, cap, m, n, D, Pl, rfl, -, hl, hm, hmm, rfl, hel⟩
  · exact ⟨ρ, H, [], [.slice none 1 0 true], hS, ro, Ext.refl _, Chg.refl H, by simp [RL, R], rfl, ⟨none, 1, true, rfl, .inl rfl, Nat.zero_le _, fun h => absurd rfl h⟩, by simp⟩
  · rw [if_pos rfl] at hmm
    subst hmm
    rw [hc] at hel
    simp only [DataW.weights, ht] at hw
    obtain ⟨ρ', H', az, l, q1, q2, q3, q4, q5, q6, q7, q8⟩ := adds_rows hs hE hA (fun cs h => h.1) hl hm (fun i hi => by
      obtain ⟨cs', h1, h2⟩ := hel i hi
      obtain ⟨-, hlen, -⟩ := World.cells?_some h1
      refine ⟨cs', h1, hlen, held, n, _, h2, all_sub hw fun k hk => List.mem_cons_of_mem _ ?_⟩
      by_cases hil : i < len
      · exact List.mem_append_left _ (weightsAll_mem (List.mem_map.2 ⟨i, List.mem_range.2 hil, rfl⟩) k hk)
      · exact List.mem_append_right _ (weightsAll_mem (List.mem_map.2 ⟨i - len, List.mem_range.2 (by omega), by rw [show len + (i - len) = i by omega]⟩) k hk)) hS ro
    refine ⟨ρ', H', az, l, q1, q2, q3, q4, q5, q6, q7, ?_⟩
    rw [List.all_cons, Bool.and_eq_true, decide_eq_true_eq, List.length_map, List.length_map, List.length_range, List.length_range, hb] at hw
    have h1 := hw.1
    have h2 : len * b ≤ (len + (m - len)) * b := Nat.mul_le_mul_right b (by omega)
    rw [q8]
    exact Nat.le_trans h2 (Nat.le_trans h1 (by decide))
end
open Go Go.RowKit Go.Proofs.YtaihjlemofgokaaGreat
set_option maxRecDepth 100000
theorem ckAll : Tr.allT (fun f fn => ckFunc Tryz.prog f fn) id tbl = true := by kernel_rfl
theorem hfsT (f : Nat) (fn : AFunc) (h : fsT f = some fn) : ckFunc Tryz.prog f fn = true := Tr.allT_get (k := id) ckAll h
theorem mixed : Tryz.prog.follows .mixedOrders = true := by kernel_rfl
theorem oraN_ok : CallOK Tryz.prog oraN := by
  intro f args H v H' he
  unfold oraN at he
  rw [Bool.cond_eq_ite] at he
  split at he
  · rename_i hf
    have : f = 79 := by simpa using hf
    subst this
    exact ⟨⟨_, Tryz.func79, by kernel_rfl, by kernel_rfl⟩, fun Z ρ w vs h hr => ids_ok he h hr⟩
  · cases he
theorem Adds.map {α β : Type} {w : World} {p : List Value → Prop} {E : Rep α} {F : Rep β} (h : Adds w p E) (k : ∀ H a l, E H a l → ∃ b, F H b l) : Adds w p F := fun cs hc Z ρ H hs ro => by
  obtain ⟨ρ', H', a, l, q1, q2, q3, q4, q5, q6, q7⟩ := h cs hc Z ρ H hs ro
  obtain ⟨b, hb⟩ := k _ _ _ q7
  exact ⟨ρ', H', b, l, q1, q2, q3, q4, q5, q6, hb⟩
theorem RL.one {ρ : Rho} {l : List AV} {v : Value} (h : RL ρ l [v]) : ∃ a, l = [a] ∧ R ρ a v := by
  cases l with
  | nil => simp [RL] at h
  | cons a l =>
    simp only [RL] at h
    obtain ⟨u, us, e, h1, h2⟩ := h
    cases e
    cases l with
    | nil => exact ⟨a, rfl, h1⟩
    | cons b l => simp [RL] at h2
section
variable {f : Nat} {W : World}
theorem N_call {args : List AV} {vs : Array Value} {H : AHeap} {ρ : Rho} (h : CW MN f args H fun u _ => u = .bool true) (hs : HS (fun k => k < W.heap.size) ρ H W) (hr : RL ρ args vs.toList) : Calls Tryz.prog f vs W fun e W' => e = .returned (.bool true) ∧ Kp (fun k => k < W.heap.size) W W' :=
  law_true_of mixed oraN_ok hfsT (fun t n f o h => by cases h) h hs hr
end
section
variable {T : Type} {enc : TypeId × Value → T} {W : World} {P : Program}
theorem seg_arr {e : TypeId} {cs : List Value} {held : Bool} {n : Nat} : ∀ (k o : Nat), cs.length = o + k → (∀ i, i < o + k → ∃ y, DataW.trod enc P W 0 (fun _ => true) held n e ((cs.drop i).take 1) = some y) → SegP enc P W (List.replicate k (e, 1)) (cs.drop o)
  | 0, o, hl, _ => by
    show cs.drop o = []
    exact List.drop_of_length_le (by omega)
  | k + 1, o, hl, hf => by
    refine ⟨⟨by simp; omega, held, n, hf o (by omega)⟩, ?_⟩
    rw [List.drop_drop]
    exact seg_arr k (o + 1) (by omega) fun i hi => hf i (by omega)
theorem adds_array {α : Type} {E : Rep α} {t e : TypeId} {k : Nat} (ht : P.underlying t = some (.array k e)) (hc : P.cellsOf e = 1) (h : Adds W (SegP enc P W (List.replicate k (e, 1))) E) : Adds W (TP enc P W t k) E := by
  rintro cs ⟨hl, held, n, y, ht'⟩
  obtain ⟨xs, n', -, -, -, hxl, hfs⟩ := DataW.trod_array ht ht'
  refine h cs ?_
  have := seg_arr (enc := enc) (P := P) (W := W) (held := held) (n := n') (e := e) (cs := cs) k 0 (by omega) fun i hi => by
    have h1 := hfs i (by omega)
    rw [hc, Nat.mul_one, List.getElem?_eq_getElem (by omega)] at h1
    exact ⟨_, h1⟩
  rwa [List.drop_zero] at this
def FiveE : Rep (Nat → Int) := fun _ x l => l = [.int .i64 (x 0), .int .i64 (x 1), .int .i64 (x 2), .int .i64 (x 3), .int .i64 (x 4)]
theorem adds_i9 : Adds W (TP enc Tryz.prog W 3 1) (IntE .i64) := adds_int Tryz.underlying3
theorem adds_five : Adds W (TP enc Tryz.prog W 26 5) FiveE := (adds_array Tryz.underlying26 (by kernel_rfl) (adds_cons MonoE.int adds_i9 (adds_cons MonoE.int adds_i9 (adds_cons MonoE.int adds_i9 (adds_cons MonoE.int adds_i9 (adds_cons MonoE.int adds_i9 adds_nil)))))).map fun H x l h => by
  obtain ⟨l1, l2, rfl, -, ⟨rfl, h1⟩, l3, l4, rfl, -, ⟨rfl, h2⟩, l5, l6, rfl, -, ⟨rfl, h3⟩, l7, l8, rfl, -, ⟨rfl, h4⟩, l9, l10, rfl, -, ⟨rfl, h5⟩, rfl⟩ := h
  exact ⟨fun k => if k = 0 then x.1 else if k = 1 then x.2.1 else if k = 2 then x.2.2.1 else if k = 3 then x.2.2.2.1 else x.2.2.2.2.1, rfl⟩
theorem adds_ask9 : Adds W (TP enc Tryz.prog W 24 4) AsE := (adds_struct (l := [(3, 1), (3, 1), (3, 1), (3, 1)]) Tryz.underlying24 (by kernel_rfl) rfl (adds_cons MonoE.int adds_i9 (adds_cons MonoE.int adds_i9 (adds_cons MonoE.int adds_i9 (adds_cons MonoE.int adds_i9 adds_nil))))).map fun H x l h => by
  obtain ⟨l1, l2, rfl, -, ⟨rfl, h1⟩, l3, l4, rfl, -, ⟨rfl, h2⟩, l5, l6, rfl, -, ⟨rfl, h3⟩, l7, l8, rfl, -, ⟨rfl, h4⟩, rfl⟩ := h
  exact ⟨⟨x.1, x.2.1, x.2.2.1, x.2.2.2.1⟩, rfl, trivial⟩
theorem addw_asks9 : Adds W (TW enc Tryz.prog W 22 1) (SlW AsE 4 32) := adds_sliceW Tryz.underlying22 (by kernel_rfl) (by kernel_rfl) (by omega) MonoE.enc (Adds.of_tp adds_ask9)
theorem plays_call (W : World) {y v : Value} (hy : TP enc Tryz.prog W 26 5 y.cells.toList) (hv : TW enc Tryz.prog W 22 1 [v]) : Calls Tryz.prog 4 #[y, v] W fun e W' => e = .returned (.bool true) ∧ Kp (fun k => k < W.heap.size) W W' := by
  obtain ⟨z, rfl⟩ : ∃ z, y = .agg z := by
    have h := hy.1
    cases y with
    | agg z => exact ⟨z, rfl⟩
    | _ => simp [Value.cells] at h
  obtain ⟨ρ1, H1, x, l1, q1, q2, q3, q4, q5, q6, q7⟩ := adds_five (enc := enc) _ hy _ _ _ (HS.empty W) RO.empty
  obtain rfl := q7
  obtain ⟨ρ2, H2, xs, l2, p1, p2, p3, p4, p5, -, p7, p8⟩ := addw_asks9 (enc := enc) _ hv _ _ _ q1 q2
  obtain ⟨u, rfl, hu⟩ := p5.one
  refine N_call (c_HeapPlays (x := x) p7 p8) p1 ?_
  simp only [RL, R]
  exact ⟨_, _, rfl, ⟨z, rfl, q5.mono' p3, q6⟩, _, _, rfl, hu, rfl⟩
end
end Go.Proofs.YtaihjlemofgokaaGreat.AA
