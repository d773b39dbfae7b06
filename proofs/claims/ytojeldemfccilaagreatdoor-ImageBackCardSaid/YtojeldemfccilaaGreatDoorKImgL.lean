/- From the machine to the program. -/
import Derived.Test.YtojeldemfccilaaGreatDoorRows
import Derived.Test.YtojeldemfccilaaGreatDoorKImgK
import Derived.Deep.Strs
import Derived.Lib.Bytealg
set_option linter.unusedSimpArgs false
set_option linter.unusedVariables false
namespace Go.Proofs.YtojeldemfccilaaGreatDoor.AA
open Go Go.RowKit Go.Proofs.YtojeldemfccilaaGreatDoor
set_option maxRecDepth 100000
theorem ckAll : Tr.allT (fun f fn => ckFunc Tryz.prog f fn) id tbl = true := by kernel_rfl
theorem hfsT (f : Nat) (fn : AFunc) (h : fsT f = some fn) : ckFunc Tryz.prog f fn = true := Tr.allT_get (k := id) ckAll h
theorem mixed : Tryz.prog.follows .mixedOrders = true := by kernel_rfl
set_option maxHeartbeats 1000000 in
theorem count_walk (s : ByteArray) (c : UInt8) (w : World) : Calls Tryz.prog 113 #[.string s, .string ⟨#[c]⟩] w fun e w' => e = .returned (.int .i64 (Lib.countByte s.data.toList c)) ∧ w' = w := by
  go_enter Tryz.func113, Tryz.ntmps113
  go_wp2
  rw [run_callFunc_extern Tryz.func123 (by kernel_rfl) (by kernel_rfl) (by kernel_rfl) (e := Extern.BytealgCount.count) (by kernel_rfl), Lib.run_countString]
  simp only [Result.andThen]
  rw [Oper.upon_value]
  go_wp2
  go_ret
  exact ⟨rfl, rfl⟩
theorem count_map_inj {α β : Type} [BEq α] [LawfulBEq α] [BEq β] [LawfulBEq β] {f : α → β} (hf : ∀ a b, f a = f b → a = b) (l : List α) (x : α) : (l.map f).count (f x) = l.count x := by
  induction l with
  | nil => rfl
  | cons a l ih =>
    rw [List.map_cons, List.count_cons, List.count_cons, ih]
    by_cases h : a = x
    · subst h; simp
    · have h1 : (a == x) = false := by simpa using h
      have h2 : (f a == f x) = false := by simp; exact fun e => h (hf _ _ e)
      rw [h1, h2]
theorem cnt_ok {args : List AV} {H H' : AHeap} {v : AV} (he : cntO args H = some (v, H')) {Z : Nat → Prop} {ρ : Rho} {w : World} {vs : Array Value} (h : HS Z ρ H w) (hr : RL ρ args vs.toList) :
    Calls Tryz.prog 113 vs w fun e w' => ∃ ρ' u, e = .returned u ∧ Ext ρ ρ' ∧ HS Z ρ' H' w' ∧ Kp Z w w' ∧ R ρ' v u := by
  unfold cntO at he
  split at he
  · rename_i s c
    split at he
    · rename_i hc
      cases he
      simp only [RL, R] at hr
      obtain ⟨u, us, hvs, ⟨b, rfl, rfl⟩, u2, us2, rfl, ⟨b2, rfl, hb2⟩, rfl⟩ := hr
      obtain rfl : vs = #[.string b, .string b2] := by cases vs; simp_all
      obtain ⟨⟨x⟩, rfl⟩ : ∃ x : UInt8, b2 = ⟨#[x]⟩ := by
        obtain ⟨⟨l⟩⟩ := b2
        match l, hb2 with
        | [x], _ => exact ⟨x, rfl⟩
      have hx : UInt8.toNat ⟨x⟩ = c := by simpa using hb2
      refine (count_walk b ⟨x⟩ w).mono ?_
      rintro e w' ⟨rfl, rfl⟩
      refine ⟨ρ, _, rfl, Ext.refl _, h, Kp.refl _ _, ?_⟩
      simp only [R, Lib.countByte]
      congr 1
      rw [← hx, count_map_inj (fun a b h => UInt8.toNat_inj.1 h)]
    · cases he
  · cases he
theorem oraN_ok : CallOK Tryz.prog oraN := by
  intro f args H v H' he
  unfold oraN at he
  rw [Bool.cond_eq_ite] at he
  split at he
  · rename_i hf
    have : f = 113 := by simpa using hf
    subst this
    exact ⟨⟨_, Tryz.func113, by kernel_rfl, by kernel_rfl⟩, fun Z ρ w vs h hr => cnt_ok he h hr⟩
  · cases he
theorem Adds.map {α β : Type} {w : World} {p : List Value → Prop} {E : Rep α} {F : Rep β} (h : Adds w p E) (k : ∀ H a l, E H a l → ∃ b, F H b l) : Adds w p F := fun cs hc Z ρ H hs ro => by
  obtain ⟨ρ', H', a, l, q1, q2, q3, q4, q5, q6, q7⟩ := h cs hc Z ρ H hs ro
  obtain ⟨b, hb⟩ := k _ _ _ q7
  exact ⟨ρ', H', b, l, q1, q2, q3, q4, q5, q6, hb⟩
theorem wf64 {n : Int} (h : (Lit.int .i64 n).wf = true) : I64 n := by
  simp [Lit.wf] at h
  have m0 : IntKind.i64.min = -9223372036854775808 := by decide
  have m1 : IntKind.i64.max = 9223372036854775807 := by decide
  unfold I64
  omega
section
variable {T : Type} {enc : TypeId × Value → T} {f : Nat} {W : World}
theorem N_call {args : List AV} {vs : Array Value} {H : AHeap} {ρ : Rho} (h : CW MN f args H fun u H' => u = .bool true ∧ Sm H H') (hs : HS (fun k => k < W.heap.size) ρ H W) (hr : RL ρ args vs.toList) : Calls Tryz.prog f vs W fun e W' => e = .returned (.bool true) ∧ Kp (fun k => k < W.heap.size) W W' :=
  law_true_of mixed oraN_ok hfsT (fun t n f o h => by cases h) (h.mono fun u H' ⟨e, _⟩ => e) hs hr
theorem adds_in : Adds W (TP enc Tryz.prog W 3 1) InE := (adds_int (k := .i64) Tryz.underlying3).map fun H n l ⟨e, h⟩ => ⟨n, e, wf64 h⟩
theorem adds_ins : Adds W (TP enc Tryz.prog W 29 1) (SlE InE 1) := adds_slice Tryz.underlying29 (by kernel_rfl) (by omega) MonoE.enc adds_in
theorem RL.one {ρ : Rho} {l : List AV} {v : Value} (h : RL ρ l [v]) : ∃ a, l = [a] ∧ R ρ a v := by
  cases l with
  | nil => simp [RL] at h
  | cons a l =>
    simp only [RL] at h
    obtain ⟨u, us, e, h1, h2⟩ := h
    cases e
    cases l with
    | nil => exact ⟨a, rfl, h1⟩
    | cons b l => simp [RL] at h2
theorem wf8 {n : Int} (h : (Lit.int .u8 n).wf = true) : ∃ m : Nat, m < 256 ∧ n = (m : Int) := by
  simp [Lit.wf] at h
  have m0 : IntKind.u8.min = 0 := by decide
  have m1 : IntKind.u8.max = 255 := by decide
  exact ⟨n.toNat, by omega, by omega⟩
theorem back_call (W : World) {v : Value} {n m : Int} (hv : TP enc Tryz.prog W 29 1 [v]) (_ : (Lit.int .i64 n).wf = true) (hm : (Lit.int .u8 m).wf = true) : Calls Tryz.prog 5 #[v, .int .i64 n, .int .u8 m] W fun e W' => e = .returned (.bool true) ∧ Kp (fun k => k < W.heap.size) W W' := by
  obtain ⟨ρ1, H1, xs, l1, q1, q2, q3, q4, q5, -, q7⟩ := adds_ins (enc := enc) _ hv _ _ _ (HS.empty W) RO.empty
  obtain ⟨x, rfl, hx⟩ := q5.one
  obtain ⟨m, hm8, rfl⟩ := wf8 hm
  refine N_call (c_ImageBack q7 n hm8) q1 ?_
  simp only [RL, R]
  exact ⟨_, _, rfl, hx, _, _, rfl, rfl, _, _, rfl, rfl, rfl⟩
end
section
variable {α : Type} {E F : Rep α} {s : Nat} {H : AHeap} {xs : List α} {l : List AV}
theorem SlE.imp (h : SlE E s H xs l) (k : ∀ a l, E H a l → F H a l) : SlE F s H xs l := by
  obtain ⟨a, s0, cl, e, h1, h2, h3⟩ := h
  exact ⟨a, s0, cl, e, h1, h2, fun h0 => by
    obtain ⟨x, o, cs, e1, e2, e3, e4⟩ := h3 h0
    exact ⟨x, o, cs, e1, e2, e3, fun j hj => k _ _ (e4 j hj)⟩⟩
end
section
variable {T : Type} {enc : TypeId × Value → T} {W : World}
end
end Go.Proofs.YtojeldemfccilaaGreatDoor.AA
