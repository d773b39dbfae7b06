/- Names: from the calculus to the program. -/
import Derived.Test.YtbbjlbdmjikhbaaDoorKNamD
import Derived.Test.YtbbjlbdmjikhbaaDoorRows
import Derived.Deep.Strs
import Derived.Lib.Bytealg
set_option linter.unusedSimpArgs false
set_option linter.unusedVariables false
namespace Go.Proofs.YtbbjlbdmjikhbaaDoor.AA
open Go Go.RowKit Go.Proofs.YtbbjlbdmjikhbaaDoor
set_option maxRecDepth 100000
theorem ckAll : Tr.allT (fun f fn => ckFunc Tryd.prog f fn) id tbl = true := by kernel_rfl
theorem hfsT (f : Nat) (fn : AFunc) (h : fsT f = some fn) : ckFunc Tryd.prog f fn = true := Tr.allT_get (k := id) ckAll h
theorem mixed : Tryd.prog.follows .mixedOrders = true := by kernel_rfl
set_option maxHeartbeats 1000000 in
theorem count_walk (s : ByteArray) (c : UInt8) (w : World) : Calls Tryd.prog 23 #[.string s, .string ⟨#[c]⟩] w fun e w' => e = .returned (.int .i64 (Lib.countByte s.data.toList c)) ∧ w' = w := by
  go_enter Tryd.func23, Tryd.ntmps23
  go_wp2
  rw [run_callFunc_extern Tryd.func29 (by kernel_rfl) (by kernel_rfl) (by kernel_rfl) (e := Extern.BytealgCount.count) (by kernel_rfl), Lib.run_countString]
  simp only [Result.andThen]
  rw [Oper.upon_value]
  go_wp2
  go_ret
  exact ⟨rfl, rfl⟩
theorem count_map_inj {α β : Type} [BEq α] [LawfulBEq α] [BEq β] [LawfulBEq β] {f : α → β} (hf : ∀ a b, f a = f b → a = b) (l : List α) (x : α) : (l.map f).count (f x) = l.count x := by
  induction l with
  | nil => rfl
  | cons a l ih =>
    rw [List.map_cons, List.count_cons, List.count_cons, ih]
    by_cases h : a = x
    · subst h; simp
    · have h1 : (a == x) = false := by simpa using h
      have h2 : (f a == f x) = false := by simp; exact fun e => h (hf _ _ e)
      rw [h1, h2]
theorem cnt_ok {args : List AV} {H H' : AHeap} {v : AV} (he : cntO args H = some (v, H')) {Z : Nat → Prop} {ρ : Rho} {w : World} {vs : Array Value} (h : HS Z ρ H w) (hr : RL ρ args vs.toList) :
    Calls Tryd.prog 23 vs w fun e w' => ∃ ρ' u, e = .returned u ∧ Ext ρ ρ' ∧ HS Z ρ' H' w' ∧ Kp Z w w' ∧ R ρ' v u := by
  unfold cntO at he
  split at he
  · rename_i s c
    split at he
    · rename_i hc
      cases he
      simp only [RL, R] at hr
      obtain ⟨u, us, hvs, ⟨b, rfl, rfl⟩, u2, us2, rfl, ⟨b2, rfl, hb2⟩, rfl⟩ := hr
      obtain rfl : vs = #[.string b, .string b2] := by cases vs; simp_all
      obtain ⟨⟨x⟩, rfl⟩ : ∃ x : UInt8, b2 = ⟨#[x]⟩ := by
        obtain ⟨⟨l⟩⟩ := b2
        match l, hb2 with
        | [x], _ => exact ⟨x, rfl⟩
      have hx : UInt8.toNat ⟨x⟩ = c := by simpa using hb2
      refine (count_walk b ⟨x⟩ w).mono ?_
      rintro e w' ⟨rfl, rfl⟩
      refine ⟨ρ, _, rfl, Ext.refl _, h, Kp.refl _ _, ?_⟩
      simp only [R, Lib.countByte]
      congr 1
      rw [← hx, count_map_inj (fun a b h => UInt8.toNat_inj.1 h)]
    · cases he
  · cases he
theorem oraN_ok : CallOK Tryd.prog oraN := by
  intro f args H v H' he
  unfold oraN at he
  rw [Bool.cond_eq_ite] at he
  split at he
  · rename_i hf
    have : f = 23 := by simpa using hf
    subst this
    exact ⟨⟨_, Tryd.func23, by kernel_rfl, by kernel_rfl⟩, fun Z ρ w vs h hr => cnt_ok he h hr⟩
  · cases he
/-- A row of one-celled things. -/
theorem SlE.one {α : Type} {E : Rep α} {H : AHeap} {xs : List α} {v : AV} {f : α → AV} (h : SlE E 1 H xs [v]) (hE : ∀ a l, E H a l → l = [f a]) : Sv H v xs.length (xs.map f) := by
  obtain ⟨a, s0, cl, e, k⟩ := h
  obtain rfl : v = _ := (List.cons.inj e).1
  refine ⟨a, s0, cl, rfl, fun h0 => ?_⟩
  obtain ⟨-, x, o, cs, rfl, hr, hl, hj⟩ := k h0
  refine ⟨x, o, rfl, ?_⟩
  have : cs = xs.map f := by
    apply List.ext_getElem?
    intro j
    by_cases hjl : j < xs.length
    · have h1 := hE _ _ (hj j hjl)
      rw [Nat.mul_one] at h1
      have h2 : (cs.drop j)[0]? = some (f xs[j]) := by
        have : ((cs.drop j).take 1)[0]? = some (f xs[j]) := by rw [h1]; rfl
        rwa [List.getElem?_take, if_pos (by omega)] at this
      rw [List.getElem?_drop, Nat.add_zero] at h2
      rw [h2, List.getElem?_map, List.getElem?_eq_getElem hjl]; rfl
    · rw [List.getElem?_eq_none (by omega), List.getElem?_eq_none (by simp; omega)]
  rw [← this]; exact hr
theorem SlE.all {α : Type} {E : Rep α} {H : AHeap} {xs : List α} {v : AV} {p : α → Prop} (h : SlE E 1 H xs [v]) (hE : ∀ a l, E H a l → p a) : ∀ a, a ∈ xs → p a := by
  obtain ⟨a, s0, cl, e, k⟩ := h
  intro x hx
  obtain ⟨j, hj, rfl⟩ := List.getElem_of_mem hx
  obtain ⟨-, y, o, cs, rfl, hr, hl, hj'⟩ := k (by omega)
  exact hE _ _ (hj' j hj)
theorem strs_of {H : AHeap} {xs : List (List Nat)} {v : AV} (h : SlE StrE 1 H xs [v]) : Sv H v xs.length (strC xs) ∧ ∀ s, s ∈ xs → StrOk s :=
  ⟨h.one fun a l e => e.1, h.all fun a l e => ⟨e.2.1, e.2.2⟩⟩
theorem bytes_of {H : AHeap} {xs : List Int} {v : AV} (h : SlE (IntE .u8) 1 H xs [v]) : ∃ raw : List Nat, Sv H v raw.length (u8s raw) ∧ ByL raw := by
  have h1 := h.one fun a l e => e.1
  have h2 : ∀ a, a ∈ xs → 0 ≤ a ∧ a < 256 := h.all fun a l e => by
    have := e.2
    simp [Lit.wf] at this
    have m0 : IntKind.u8.min = 0 := by decide
    have m1 : IntKind.u8.max = 255 := by decide
    omega
  refine ⟨xs.map Int.toNat, ?_, fun x hx => ?_⟩
  · have : u8s (xs.map Int.toNat) = xs.map fun n => AV.int .u8 n := by
      unfold u8s
      rw [List.map_map]
      refine List.map_congr_left fun a ha => ?_
      have := h2 a ha
      show AV.int .u8 ((a.toNat : Nat) : Int) = _
      rw [Int.toNat_of_nonneg this.1]
    rw [this, List.length_map]
    exact h1
  · obtain ⟨a, ha, rfl⟩ := List.mem_map.1 hx
    have := h2 a ha
    omega
section
variable {T : Type} {enc : TypeId × Value → T} {f : Nat} {W : World}
/-- A call that wants nothing. -/
theorem N_call {args : List AV} {vs : Array Value} {H : AHeap} {ρ : Rho} (h : CW MN f args H fun u H' => u = .bool true ∧ Sm H H') (hs : HS (fun k => k < W.heap.size) ρ H W) (hr : RL ρ args vs.toList) : Calls Tryd.prog f vs W fun e W' => e = .returned (.bool true) ∧ Kp (fun k => k < W.heap.size) W W' :=
  law_true_of mixed oraN_ok hfsT (fun t n f o h => by cases h) (h.mono fun u H' ⟨e, _⟩ => e) hs hr
theorem str_ok (a : ByteArray) (ha : a.size ≤ maxLen) : StrOk (a.data.toList.map UInt8.toNat) := ⟨fun x hx => by
  obtain ⟨y, -, rfl⟩ := List.mem_map.1 hx
  exact y.toNat_lt, by rw [List.length_map]; exact ha⟩
theorem numbers_call (W : World) : Calls Tryd.prog 3 #[] W fun e W' => e = .returned (.bool true) ∧ Kp (fun k => k < W.heap.size) W W' :=
  N_call (ρ := fun _ => none) (c_numbers ⟨0, .nil⟩) (HS.empty W) (by simp [RL])
theorem adds_bytes : Adds W (TP enc Tryd.prog W 22 1) (SlE (IntE .u8) 1) := adds_slice Tryd.underlying22 (by kernel_rfl) (by omega) MonoE.int (adds_int Tryd.underlying5)
theorem adds_strs : Adds W (TP enc Tryd.prog W 23 1) (SlE StrE 1) := adds_slice Tryd.underlying23 (by kernel_rfl) (by omega) MonoE.str (adds_str Tryd.underlying9)
theorem RL.one {ρ : Rho} {l : List AV} {v : Value} (h : RL ρ l [v]) : ∃ a, l = [a] ∧ R ρ a v := by
  cases l with
  | nil => simp [RL] at h
  | cons a l =>
    simp only [RL] at h
    obtain ⟨u, us, e, h1, h2⟩ := h
    cases e
    cases l with
    | nil => exact ⟨a, rfl, h1⟩
    | cons b l => simp [RL] at h2
theorem tells_call (W : World) {a b : ByteArray} {v w : Value} (ha : a.size ≤ maxLen) (hb : b.size ≤ maxLen) (hv : TP enc Tryd.prog W 22 1 [v]) (hw : TP enc Tryd.prog W 23 1 [w]) : Calls Tryd.prog 4 #[.string a, .string b, v, w] W fun e W' => e = .returned (.bool true) ∧ Kp (fun k => k < W.heap.size) W W' := by
  obtain ⟨ρ1, H1, xs, l1, q1, q2, q3, q4, q5, -, q7⟩ := adds_bytes (enc := enc) _ hv _ _ _ (HS.empty W) RO.empty
  obtain ⟨ρ2, H2, ys, l2, r1, r2, r3, r4, r5, -, r7⟩ := adds_strs (enc := enc) _ hw _ _ _ q1 q2
  obtain ⟨x, rfl, hx⟩ := q5.one
  obtain ⟨y, rfl, hy⟩ := r5.one
  obtain ⟨raw, g1, g2⟩ := bytes_of q7
  obtain ⟨g3, g4⟩ := strs_of r7
  refine N_call (c_tells (str_ok a ha) (str_ok b hb) (g1.keep r4) g2 g3 g4) r1 ?_
  simp only [RL, R]
  exact ⟨_, _, rfl, ⟨a, rfl, rfl⟩, _, _, rfl, ⟨b, rfl, rfl⟩, _, _, rfl, hx.mono' r3, _, _, rfl, hy, rfl⟩
theorem keys_call (W : World) {w : Value} (hw : TP enc Tryd.prog W 23 1 [w]) : Calls Tryd.prog 5 #[w] W fun e W' => e = .returned (.bool true) ∧ Kp (fun k => k < W.heap.size) W W' := by
  obtain ⟨ρ2, H2, ys, l2, r1, r2, r3, r4, r5, -, r7⟩ := adds_strs (enc := enc) _ hw _ _ _ (HS.empty W) RO.empty
  obtain ⟨y, rfl, hy⟩ := r5.one
  obtain ⟨g3, g4⟩ := strs_of r7
  refine N_call (c_keysLaw g3 g4) r1 ?_
  simp only [RL]
  exact ⟨_, _, rfl, hy, rfl⟩
theorem args_call (W : World) {a : ByteArray} {n : Int} (ha : a.size ≤ maxLen) (wb : (Lit.int .i64 n).wf = true) : Calls Tryd.prog 6 #[.string a, .int .i64 n] W fun e W' => e = .returned (.bool true) ∧ Kp (fun k => k < W.heap.size) W W' := by
  have h : -9223372036854775808 ≤ n ∧ n ≤ 9223372036854775807 := by
    simp [Lit.wf] at wb
    have m0 : IntKind.i64.min = -9223372036854775808 := by decide
    have m1 : IntKind.i64.max = 9223372036854775807 := by decide
    omega
  refine N_call (c_argsLaw (str_ok a ha) h.1 h.2) (HS.empty W) ?_
  simp only [RL, R]
  exact ⟨_, _, rfl, ⟨a, rfl, rfl⟩, _, _, rfl, rfl, rfl⟩
end
end Go.Proofs.YtbbjlbdmjikhbaaDoor.AA
