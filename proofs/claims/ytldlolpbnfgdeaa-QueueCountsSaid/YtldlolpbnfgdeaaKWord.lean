/- Words: contracts of word.ID and the document's own ID, Int, Oop; Within. -/
import Derived.Test.YtldlolpbnfgdeaaKStore
import Derived.Test.YtldlolpbnfgdeaaKBits
namespace Go.Proofs.Ytldlolpbnfgdeaa
open Go Go.RowKit

theorem ret_i64 {a b : Int} (h : a = b) : Ending.returned (Value.int .i64 a) = .returned (.int .i64 b) := by rw [h]
def idO (x : Nat) : Option Nat := if x % 2 = 1 ∨ x = 0 then none else some (x / 2)
def idVal (r : Option Nat) : Value := match r with | some k => .tuple #[.int .i64 (k : Int), .bool true] | none => .tuple #[.int .i64 0, .bool false]
theorem tup_int {k : Nat} {a : Int} (h : a = (k : Int)) : Ending.returned (.tuple #[.int .i64 a, .bool true]) = .returned (idVal (some k)) := by rw [h]; rfl

theorem w_id (x : Nat) (hx : x < 4294967296) (w : World) : Calls Try.prog 87 #[u32v x] w fun e w' => e = .returned (idVal (idO x)) ∧ w = w' := by
  unfold u32v idO
  have hb := u32_and1 x hx
  rcases Nat.mod_two_eq_zero_or_one x with h | h
  · rw [h] at hb
    by_cases h0 : x = 0
    · subst h0
      rw [if_pos (by omega)]
      go_enter Try.func87, Try.ntmps87
      go_wp2
      all_goals (go_ret2; exact ⟨rfl, rfl⟩)
    · rw [if_neg (by omega)]
      have hx0 : ((x : Int) == 0) = false := by simpa using h0
      go_enter Try.func87, Try.ntmps87
      go_wp2
      all_goals (go_ret2; exact ⟨tup_int (by omega), rfl⟩)
  · rw [h] at hb
    rw [if_pos (by omega)]
    go_enter Try.func87, Try.ntmps87
    go_wp2
    all_goals (go_ret2; exact ⟨rfl, rfl⟩)
theorem r_id (x : Nat) (hx : x < 4294967296) (w : World) : Calls Try.prog 25 #[u32v x] w fun e w' => e = .returned (idVal (idO x)) ∧ w = w' := by
  unfold u32v idO
  have hb := u32_and1 x hx
  rcases Nat.mod_two_eq_zero_or_one x with h | h
  · rw [h] at hb
    by_cases h0 : x = 0
    · subst h0
      rw [if_pos (by omega)]
      go_enter Try.func25, Try.ntmps25
      go_wp2
      all_goals (go_ret2; exact ⟨rfl, rfl⟩)
    · rw [if_neg (by omega)]
      have hx0 : ((x : Int) == 0) = false := by simpa using h0
      go_enter Try.func25, Try.ntmps25
      go_wp2
      all_goals (go_ret2; exact ⟨tup_int (by omega), rfl⟩)
  · rw [h] at hb
    rw [if_pos (by omega)]
    go_enter Try.func25, Try.ntmps25
    go_wp2
    all_goals (go_ret2; exact ⟨rfl, rfl⟩)
theorem r_int (n : Nat) (h1 : n ≤ 1023) (w : World) : Calls Try.prog 85 #[.int .i64 (n : Int)] w fun e w' => e = .returned (.tuple #[u32v (2 * n + 1), .bool true]) ∧ w = w' := by
  have hb := u32_or1 n (by omega)
  rw [Int.mul_comm] at hb
  have h2 : (n : Int) ≤ 1023 := by omega
  go_enter Try.func85, Try.ntmps85
  go_wp2
  go_ret2
  exact ⟨by unfold u32v; simp; omega, rfl⟩
theorem r_oop (n : Int) (h0 : 1 ≤ n) (h1 : n ≤ 2147483647) (w : World) : Calls Try.prog 86 #[.int .i64 n] w fun e w' => e = .returned (u32v (2 * n.toNat)) ∧ w = w' := by
  go_enter Try.func86, Try.ntmps86
  go_wp2
  go_ret
  exact ⟨by unfold u32v; simp; omega, rfl⟩

def within (n lo hi : Int) : Int := if lo ≤ n ∧ n ≤ hi then n else lo + n % (hi - lo + 1)
theorem within_range (n lo hi : Int) (h : lo ≤ hi) : lo ≤ within n lo hi ∧ within n lo hi ≤ hi := by
  unfold within
  split
  · assumption
  · have h1 := Int.emod_nonneg n (show hi - lo + 1 ≠ 0 by omega)
    have h2 := Int.emod_lt_of_pos n (show 0 < hi - lo + 1 by omega)
    omega
theorem b_within (n lo hi : Int) (hn0 : -9223372036854775808 ≤ n) (hn1 : n ≤ 9223372036854775807) (h : lo ≤ hi) (hl0 : -4294967296 ≤ lo) (hl1 : hi ≤ 4294967296) (w : World) :
    Calls Try.prog 29 #[.int .i64 n, .int .i64 lo, .int .i64 hi] w fun e w' => e = .returned (.int .i64 (within n lo hi)) ∧ w = w' := by
  unfold within
  by_cases hc : lo ≤ n ∧ n ≤ hi
  · rw [if_pos hc]
    obtain ⟨hc1, hc2⟩ := hc
    go_enter Try.func29, Try.ntmps29
    go_wp2
    all_goals (go_ret; exact ⟨rfl, rfl⟩)
  · rw [if_neg hc]
    have hc' : n < lo ∨ hi < n := by omega
    have h1 := Int.emod_nonneg n (show hi - lo + 1 ≠ 0 by omega)
    have h2 := Int.emod_lt_of_pos n (show 0 < hi - lo + 1 by omega)
    have h3 : n.tmod (hi - lo + 1) = n % (hi - lo + 1) ∨ n.tmod (hi - lo + 1) = n % (hi - lo + 1) - (hi - lo + 1) := by
      rw [Int.tmod_eq_emod]
      split
      · left; omega
      · right; omega
    have h4 : -9000000000 ≤ n.tmod (hi - lo + 1) ∧ n.tmod (hi - lo + 1) ≤ 9000000000 := by omega
    have H3 := Lib.hid h3
    obtain ⟨h5, h6⟩ := h4
    clear h3
    go_enter Try.func29, Try.ntmps29
    go_wp2
    all_goals
      go_ret
      have h3 := H3.out
      generalize n.tmod (hi - lo + 1) = t at *
      generalize n % (hi - lo + 1) = m at *
      refine ⟨ret_i64 ?_, rfl⟩
      omega
def wordP (k n : Int) : Nat := if k % 4 = 0 then 2 * (k % 1024).toNat + 1 else if k % 4 = 1 then 6 else 2 * (4 + within k 0 (n - 1)).toNat
set_option maxHeartbeats 400000 in
theorem l_word (k n : Int) (hn0 : -9223372036854775808 ≤ k) (hn1 : k ≤ 9223372036854775807) (h1 : 1 ≤ n) (h2 : n ≤ 1073741824) (w : World) :
    Calls Try.prog 51 #[.int .i64 k, .int .i64 n] w fun e w' => e = .returned (u32v (wordP k n)) ∧ w = w' := by
  have hb := i64_and3 k
  have hb2 := i64_and1023 k
  have hk : k % 4 = 0 ∨ k % 4 = 1 ∨ k % 4 = 2 ∨ k % 4 = 3 := by omega
  have hr := within_range k 0 (n - 1) (by omega)
  have hj0 : 0 ≤ k % 1024 := by omega
  obtain ⟨j, hj⟩ := Int.eq_ofNat_of_zero_le hj0
  have hj1 : j ≤ 1023 := by omega
  unfold wordP
  rw [hj] at hb2 ⊢
  clear hj hj0
  rcases hk with h | h | h | h
  · rw [h] at hb ⊢
    rw [if_pos rfl]
    clear h
    go_enter Try.func51, Try.ntmps51
    go_wp2_with (go_at_call 85; refine (r_int j hj1 _).mono ?_; rintro e w' ⟨rfl, rfl⟩)
    go_ret
    exact ⟨rfl, rfl⟩
  · rw [h] at hb ⊢
    rw [if_neg (by omega), if_pos rfl]
    clear h
    go_enter Try.func51, Try.ntmps51
    go_wp2
    go_ret
    exact ⟨rfl, rfl⟩
  · rw [h] at hb ⊢
    rw [if_neg (by omega), if_neg (by omega)]
    clear h
    generalize hw : within k 0 (n - 1) = q at *
    have HW := Lib.hid hw
    obtain ⟨hr1, hr2⟩ := hr
    clear hw
    go_enter Try.func51, Try.ntmps51
    go_wp2_with (first | (go_at_call 29; refine (b_within k 0 (n - 1) hn0 hn1 (by omega) (by omega) (by omega) _).mono ?_; rintro e w' ⟨rfl, rfl⟩; rw [HW.out]) | (go_at_call 86; refine (r_oop (4 + q) (by omega) (by omega) _).mono ?_; rintro e w' ⟨rfl, rfl⟩))
    go_ret
    exact ⟨rfl, rfl⟩
  · rw [h] at hb ⊢
    rw [if_neg (by omega), if_neg (by omega)]
    clear h
    generalize hw : within k 0 (n - 1) = q at *
    have HW := Lib.hid hw
    obtain ⟨hr1, hr2⟩ := hr
    clear hw
    go_enter Try.func51, Try.ntmps51
    go_wp2_with (first | (go_at_call 29; refine (b_within k 0 (n - 1) hn0 hn1 (by omega) (by omega) (by omega) _).mono ?_; rintro e w' ⟨rfl, rfl⟩; rw [HW.out]) | (go_at_call 86; refine (r_oop (4 + q) (by omega) (by omega) _).mono ?_; rintro e w' ⟨rfl, rfl⟩))
    go_ret
    exact ⟨rfl, rfl⟩
end Go.Proofs.Ytldlolpbnfgdeaa
