/- The queue's counts: the run, laid out. -/
import Derived.Test.YtldlolpbnfgdeaaKMachD
import Derived.Test.YtldlolpbnfgdeaaKMachQ
import Derived.Test.YtldlolpbnfgdeaaKWord
import Derived.Test.YtldlolpbnfgdeaaRows
namespace Go.Proofs.Ytldlolpbnfgdeaa.AA
open Go Go.RowKit Go.Proofs.Ytldlolpbnfgdeaa
set_option maxRecDepth 100000
theorem b_within12 (n : Int) (w : World) :
    Calls Try.prog 29 #[.int .i64 n, .int .i64 0, .int .i64 12] w fun e w' => e = .returned (.int .i64 (within n 0 12)) ∧ w = w' := by
  unfold within
  by_cases hc : 0 ≤ n ∧ n ≤ 12
  · rw [if_pos hc]
    obtain ⟨hc1, hc2⟩ := hc
    go_enter Try.func29, Try.ntmps29
    go_wp2
    all_goals (go_ret; exact ⟨rfl, rfl⟩)
  · rw [if_neg hc]
    have hc' : n < 0 ∨ 12 < n := by omega
    show Calls _ _ _ _ fun e w' => e = .returned (.int .i64 (0 + n % 13)) ∧ w = w'
    have h1 := Int.emod_nonneg n (show (13 : Int) ≠ 0 by omega)
    have h2 := Int.emod_lt_of_pos n (show (0 : Int) < 13 by omega)
    have h3 : n.tmod 13 = n % 13 ∨ n.tmod 13 = n % 13 - 13 := by
      rw [Int.tmod_eq_emod]
      split
      · left; omega
      · right; omega
    have h4 : -9000000000 ≤ n.tmod 13 ∧ n.tmod 13 ≤ 9000000000 := by omega
    have H3 := Lib.hid h3
    obtain ⟨h5, h6⟩ := h4
    clear h3
    go_enter Try.func29, Try.ntmps29
    go_wp2
    all_goals
      go_ret
      have h3 := H3.out
      generalize n.tmod 13 = t at *
      generalize n % 13 = m at *
      refine ⟨ret_i64 ?_, rfl⟩
      omega
def fsW (n : Nat) : Option AFunc := bif n.beq 29 then none else tbl.get n
def oraW : Rec := fun f args H => bif f.beq 29 then (match args with
  | [.int .i64 x, .int .i64 0, .int .i64 12] => some (.int .i64 (within x 0 12), H)
  | _ => none) else none
theorem ckAll : Tr.allT (fun f fn => ckFunc Try.prog f fn) id tbl = true := by kernel_rfl
theorem hfsT (f : Nat) (fn : AFunc) (h : fsT f = some fn) : ckFunc Try.prog f fn = true := Tr.allT_get (k := id) ckAll h
theorem hfsW (f : Nat) (fn : AFunc) (h : fsW f = some fn) : ckFunc Try.prog f fn = true := by
  unfold fsW at h
  rw [Bool.cond_eq_ite] at h
  split at h
  · cases h
  · exact hfsT f fn h
theorem oraW_ok : CallOK Try.prog oraW := by
  intro f args H v H' he
  unfold oraW at he
  rw [Bool.cond_eq_ite] at he
  split at he
  · rename_i hf
    have : f = 29 := by simpa using hf
    subst this
    split at he
    · rename_i x
      simp only [Option.some.injEq, Prod.mk.injEq] at he
      obtain ⟨rfl, rfl⟩ := he
      refine ⟨⟨Try.f29, Try.func29, by kernel_rfl, by kernel_rfl⟩, fun Z ρ w vs h hr => ?_⟩
      simp only [RL, R] at hr
      obtain ⟨v1, l1, e1, rfl, v2, l2, rfl, rfl, v3, l3, rfl, rfl, rfl⟩ := hr
      obtain rfl : vs = #[.int .i64 x, .int .i64 0, .int .i64 12] := by cases vs; simp_all
      refine (b_within12 x w).mono fun e w' ⟨h1, h2⟩ => ?_
      subst h1; subst h2
      exact ⟨ρ, _, rfl, Ext.refl _, h, Kp.refl _ _, by simp only [R]⟩
    · cases he
  · cases he
def bodyL : ACode → ACode
  | .seq a _ => a
  | _ => .skip
def bodyR : ACode → ACode
  | .seq _ b => b
  | _ => .skip
def cA : ACode := bodyL af10.body
def cB : ACode := bodyL (bodyR af10.body)
def cC : ACode := bodyL (bodyR (bodyR af10.body))
def cR : ACode := bodyR (bodyR (bodyR af10.body))
theorem body10 : af10.body = .seq cA (.seq cB (.seq cC cR)) := by rfl
def rA (n m : Int) := runA fsW noM oraW 300 cA (initA 0 .nil [.int .i64 n, .int .i64 m]) ⟨0, .nil⟩
def rB (n m : Int) := match rA n m with | some (.normal, fr, H) => runA fsW noM oraW 300 cB fr H | _ => none
def rC (n m : Int) := match rB n m with | some (.normal, fr, H) => runA fsW noM oraW 300 cC fr H | _ => none
def toC : Option (AEx × AFr × AHeap) → Option (Option AV × Option AV × Option AV × Option AV × Bool × AHeap)
  | some (.normal, fr, H) => some (fr.get 4, fr.get 5, fr.get 6, fr.get 7, true, H)
  | _ => none
def heap0 : AHeap := match rC 0 0 with | some (_, _, H) => H | none => ⟨0, .nil⟩
def q0 : Option AV := match rC 0 0 with | some (_, fr, _) => fr.get 5 | none => none
theorem rC_eq (n m : Int) : toC (rC n m) = some (some (.bool false), q0, some (.int .i64 (within n 0 12)), some (.int .i64 (within m 0 12)), true, heap0) := by kernel_rfl
def fr0 (a b : Nat) : AFr := (((Tr.nil.set 4 (some (.bool false))).set 5 q0).set 6 (some (.int .i64 a))).set 7 (some (.int .i64 b))
def fsK (n : Nat) : Option AFunc := bif n.beq 28 then none else tbl.get n
def oraK : Rec := fun f args H => bif f.beq 28 then (match args with
  | [] => some (.bool true, H)
  | _ => none) else none
theorem hfsK (f : Nat) (fn : AFunc) (h : fsK f = some fn) : ckFunc Try.prog f fn = true := by
  unfold fsK at h
  rw [Bool.cond_eq_ite] at h
  split at h
  · cases h
  · exact hfsT f fn h
theorem mixed : Try.prog.follows .mixedOrders = true := by kernel_rfl
theorem known_call (w : World) : Calls Try.prog 28 #[] w fun e w' => e = .returned (.bool true) ∧ Kp (fun k => k < w.heap.size) w w' :=
  closed_call (fs := fsT) (ms := noM) (ora := noOra) mixed noOra_ok hfsT noM_ok (fn := af28) (n := 900) (b := true) (hfsT 28 af28 (by kernel_rfl)) (by kernel_rfl) w
theorem oraK_ok : CallOK Try.prog oraK := by
  intro f args H v H' he
  unfold oraK at he
  rw [Bool.cond_eq_ite] at he
  split at he
  · rename_i hf
    have : f = 28 := by simpa using hf
    subst this
    split at he
    · simp only [Option.some.injEq, Prod.mk.injEq] at he
      exact closed_ok Try.func28 (by kernel_rfl) (by kernel_rfl) known_call rfl he.1.symm he.2.symm
    · cases he
  · cases he
def okRest (a b : Nat) : Bool := match runA fsK noM oraK 900 cR (fr0 a b) heap0 with
  | some (.ret, fr, H) => (match resA fr H af10.results with | some [.bool true] => true | _ => false)
  | _ => false
end Go.Proofs.Ytldlolpbnfgdeaa.AA
