/- Bits, as numbers. -/
import Derived.Test.YtldlolpbnfgdeaaKBase
import Derived.Laws.BitsLemmas
import Derived.Laws.BitsAllLaws
namespace Go.Proofs.Ytldlolpbnfgdeaa
open Go Go.RowKit
theorem i64_mask (j : Nat) (hj : j < 63) (n : Int) (m : Int) (hm : m = 2 ^ j - 1) : bits .and .i64 n m = n % 2 ^ j := by
  subst hm
  have hp : (2 : Nat) ^ j < 2 ^ 63 := Nat.pow_lt_pow_right (by omega) hj
  have hp1 : 0 < (2 : Nat) ^ j := Nat.two_pow_pos j
  have hc : ((2 : Int) ^ j - 1) = ((2 ^ j - 1 : Nat) : Int) := by
    rw [Int.natCast_sub hp1]; simp
  have h127 : (BitVec.ofInt 64 ((2 : Int) ^ j - 1)).toNat = 2 ^ j - 1 := by
    rw [hc, BitVec.ofInt_natCast, BitVec.toNat_ofNat, Nat.mod_eq_of_lt (by omega)]
  have key : (BitVec.ofInt 64 n &&& BitVec.ofInt 64 ((2 : Int) ^ j - 1)).toNat = (n % ((2 ^ 64 : Nat) : Int)).toNat % 2 ^ j := by
    rw [BitVec.toNat_and, BitVec.toNat_ofInt, h127, Nat.and_two_pow_sub_one_eq_mod]
  show IntKind.i64.wrap ((BitVec.ofInt 64 n &&& BitVec.ofInt 64 ((2 : Int) ^ j - 1)).toNat : Nat) = n % 2 ^ j
  rw [key, IntKind.wrap_i64]
  have h1 : (((n % ((2 ^ 64 : Nat) : Int)).toNat % 2 ^ j : Nat) : Int) = n % 2 ^ j := by
    rw [Int.natCast_emod, Int.toNat_of_nonneg (by omega)]
    have : ((2 ^ j : Nat) : Int) ∣ ((2 ^ 64 : Nat) : Int) := Int.natCast_dvd_natCast.2 (Nat.pow_dvd_pow 2 (by omega))
    rw [Int.emod_emod_of_dvd _ this]
    simp
  rw [h1]
  have h2 : 0 ≤ n % (2 : Int) ^ j := Int.emod_nonneg _ (by have : ((2 ^ j : Nat) : Int) ≠ 0 := (by omega); simpa using this)
  have h3 : n % (2 : Int) ^ j < 2 ^ j := Int.emod_lt_of_pos _ (by have : (0 : Int) < ((2 ^ j : Nat) : Int) := (by omega); simpa using this)
  have h4 : (2 : Int) ^ j < 9223372036854775808 := by
    have : ((2 ^ j : Nat) : Int) < ((2 ^ 63 : Nat) : Int) := by omega
    simpa using this
  omega
theorem i64_and1 (n : Int) : bits .and .i64 n 1 = n % 2 := i64_mask 1 (by omega) n 1 (by decide)
theorem i64_and3 (n : Int) : bits .and .i64 n 3 = n % 4 := i64_mask 2 (by omega) n 3 (by decide)
theorem i64_and1023 (n : Int) : bits .and .i64 n 1023 = n % 1024 := i64_mask 10 (by omega) n 1023 (by decide)
theorem u32_and1 (x : Nat) (hx : x < 4294967296) : bits .and .u32 (x : Int) 1 = ((x % 2 : Nat) : Int) := by
  have := u32_and_nat x 1 hx (by omega)
  rw [Nat.and_one_is_mod] at this
  exact this
theorem u32_or1 (x : Nat) (hx : 2 * x < 4294967296) : bits .or .u32 (2 * (x : Int)) 1 = 2 * (x : Int) + 1 := by
  have := u32_or_nat (2 * x) 1 hx (by omega)
  have h := Nat.two_pow_add_eq_or_of_lt (b := 1) (i := 1) (by omega) x
  rw [show 2 * x ||| 1 = 2 * x + 1 by rw [Nat.pow_one] at h; omega] at this
  simpa using this
end Go.Proofs.Ytldlolpbnfgdeaa
