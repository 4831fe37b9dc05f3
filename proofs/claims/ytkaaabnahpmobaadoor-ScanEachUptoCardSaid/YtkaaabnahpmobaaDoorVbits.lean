/-
  Plain facts on whole numbers and bits: how the walk's own spelling of zig and zag comes to plain arithmetic. No condition beyond the bounds that each line names.
-/
import Derived.Test.YtkaaabnahpmobaaDoorMem
import Derived.Laws.BitsAllLaws
import Derived.Laws.DeepNot64
namespace Go.Proofs.YtkaaabnahpmobaaDoor
open Go.RowKit
set_option linter.unusedVariables false

def zigN (v : Int) : Int := if 0 ≤ v then 2 * v else -2 * v - 1
def zagN (u : Int) : Int := if u % 2 = 0 then u / 2 else -(u / 2) - 1

theorem nat_xor_ones (x n : Nat) (h : x < 2 ^ n) : x ^^^ (2 ^ n - 1) = 2 ^ n - 1 - x := by
  apply Nat.eq_of_testBit_eq
  intro i
  rw [Nat.testBit_xor, Nat.testBit_two_pow_sub_one, show 2 ^ n - 1 - x = 2 ^ n - (x + 1) by omega, Nat.testBit_two_pow_sub_succ h]
  by_cases hi : i < n
  · simp [hi]
  · simp [hi]; exact Nat.testBit_lt_two_pow (Nat.lt_of_lt_of_le h (Nat.pow_le_pow_right (by decide) (by omega)))

theorem wrap_u64 (n : Int) : IntKind.u64.wrap n = n % 18446744073709551616 := by simp [IntKind.wrap, IntKind.bits, IntKind.signed]

theorem zig_bits (v : Int) (h1 : -9223372036854775808 ≤ v) (h2 : v ≤ 9223372036854775807) :
    bits .xor .u64 (IntKind.u64.wrap (IntKind.u64.wrap v * 2)) (IntKind.u64.wrap (v / 9223372036854775808)) = zigN v := by
  rw [wrap_u64, wrap_u64, wrap_u64]
  unfold zigN
  by_cases h : 0 ≤ v
  · rw [if_pos h, u64_xor _ _ (by omega) (by omega) (by omega) (by omega)]
    rw [show (v / 9223372036854775808 % 18446744073709551616).toNat = 0 by omega, Nat.xor_zero]
    omega
  · rw [if_neg h, u64_xor _ _ (by omega) (by omega) (by omega) (by omega)]
    rw [show (v / 9223372036854775808 % 18446744073709551616).toNat = 2 ^ 64 - 1 by omega, nat_xor_ones _ _ (by omega)]
    omega

theorem wrap64_eq (n : Int) : wrap64 n = (n + 9223372036854775808) % 18446744073709551616 - 9223372036854775808 := by
  rw [← IntWalk.i64_left, IntKind.wrap_i64]

theorem bits_xor_comm (k : IntKind) (a b : Int) : bits .xor k a b = bits .xor k b a := by
  unfold bits; simp only [BitVec.xor_comm]

theorem u64_and1 (u : Int) (h1 : 0 ≤ u) (h2 : u < 18446744073709551616) : bits .and .u64 u 1 = u % 2 := by
  rw [u64_and _ _ h1 h2 (by omega) (by omega), show (1 : Int).toNat = 1 from rfl, nat_mask1]; omega

theorem bits_xor_zero_i64 (x : Int) (h1 : -9223372036854775808 ≤ x) (h2 : x ≤ 9223372036854775807) : bits .xor .i64 x 0 = x := by
  have e : bits .xor .i64 x 0 = IntKind.i64.wrap (((BitVec.ofInt 64 x : BitVec 64) ^^^ (0#64 : BitVec 64)).toNat : Int) := rfl
  rw [e, BitVec.xor_zero, BitVec.toNat_ofInt, IntKind.wrap_i64]
  omega

theorem zag_bits (u : Int) (h1 : 0 ≤ u) (h2 : u < 18446744073709551616) :
    bits .xor .i64 (u / 2) (wrap64 (-wrap64 (bits .and .u64 u 1))) = zagN u := by
  rw [u64_and1 u h1 h2]
  unfold zagN
  by_cases h : u % 2 = 0
  · rw [if_pos h, h]
    rw [show wrap64 (-wrap64 0) = 0 by simp [wrap64_eq]]
    exact bits_xor_zero_i64 _ (by omega) (by omega)
  · rw [if_neg h, show u % 2 = 1 by omega]
    rw [show wrap64 (-wrap64 1) = -1 by simp [wrap64_eq], bits_xor_comm]
    have := i64_not (u / 2).toNat (by omega)
    rw [show (((u / 2).toNat : Nat) : Int) = u / 2 by omega] at this
    rw [this]; omega


theorem zag_zig (v : Int) : zagN (zigN v) = v := by unfold zagN zigN; split <;> split <;> omega
theorem zig_zag (u : Int) (h : 0 ≤ u) : zigN (zagN u) = u := by unfold zagN zigN; split <;> split <;> omega
theorem zig_bd (v : Int) (h1 : -9223372036854775808 ≤ v) (h2 : v ≤ 9223372036854775807) : 0 ≤ zigN v ∧ zigN v < 18446744073709551616 := by unfold zigN; split <;> omega
theorem zag_bd (u : Int) (h1 : 0 ≤ u) (h2 : u < 18446744073709551616) : -9223372036854775808 ≤ zagN u ∧ zagN u ≤ 9223372036854775807 := by unfold zagN; split <;> omega
theorem zig_small (v w : Int) (h1 : 0 ≤ v) (h2 : v ≤ w) : zigN v ≤ zigN w ∧ zigN (-v) ≤ zigN w := by
  unfold zigN; constructor <;> (split <;> split <;> omega)

end Go.Proofs.YtkaaabnahpmobaaDoor
