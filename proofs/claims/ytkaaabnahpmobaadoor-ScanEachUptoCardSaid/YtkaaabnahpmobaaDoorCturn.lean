/-
  The reference's Turn: a copy in which the bits of a pattern are turned: what it gives, and what that is as a number. Conditions: the argument reads as bytes; the place is below 2^60.
-/
import Derived.Test.YtkaaabnahpmobaaDoorCplain
namespace Go.Proofs.YtkaaabnahpmobaaDoor
open Go.RowKit
set_option linter.unusedVariables false

/-- One bit turned, if the pattern says so and it lies within. -/
def turn1 (l : List UInt8) (t p k : Nat) : List UInt8 :=
  if p / 2 ^ k % 2 = 1 ∧ (t + k) / 8 < l.length then l.set ((t + k) / 8) (UInt8.ofNat ((l.getD ((t + k) / 8) 0).toNat ^^^ 2 ^ ((t + k) % 8))) else l
def turn (l : List UInt8) (t p : Nat) : Nat → List UInt8
  | 0 => l
  | k + 1 => turn1 (turn l t p k) t p k

theorem turn1_length (l : List UInt8) (t p k : Nat) : (turn1 l t p k).length = l.length := by unfold turn1; split <;> simp
theorem turn_length (l : List UInt8) (t p k : Nat) : (turn l t p k).length = l.length := by
  induction k with
  | zero => rfl
  | succ k ih => rw [turn, turn1_length, ih]

theorem mul_xor (n a b : Nat) : 2 ^ n * (a ^^^ b) = 2 ^ n * a ^^^ 2 ^ n * b := by
  apply Nat.eq_of_testBit_eq; intro i
  simp only [Nat.testBit_xor, Nat.testBit_two_pow_mul]
  by_cases h : n ≤ i <;> simp [h]

theorem num_set : ∀ (l : List UInt8) (j d : Nat), j < l.length → d < 256 → num (l.set j (UInt8.ofNat ((l.getD j 0).toNat ^^^ d))) = num l ^^^ 2 ^ (8 * j) * d
  | [], j, d, h, _ => by simp at h
  | x :: r, 0, d, _, hd => by
    have h1 : (UInt8.ofNat (x.toNat ^^^ d)).toNat = x.toNat ^^^ d := by
      simp only [UInt8.toNat_ofNat']; exact Nat.mod_eq_of_lt (Nat.xor_lt_two_pow (n := 8) x.toNat_lt hd)
    simp only [List.set_cons_zero, num, List.getD_cons_zero, h1, Nat.mul_zero, Nat.pow_zero, Nat.one_mul]
    rw [Nat.xor_assoc, Nat.xor_assoc, Nat.xor_comm d]
  | x :: r, j + 1, d, h, hd => by
    simp only [List.set_cons_succ, num, List.getD_cons_succ]
    rw [num_set r j d (by simpa using h) hd, Nat.mul_succ, Nat.pow_add]
    have e : 256 * (num r ^^^ 2 ^ (8 * j) * d) = 256 * num r ^^^ 256 * (2 ^ (8 * j) * d) := by
      exact mul_xor 8 _ _
    rw [e, Nat.xor_assoc]
    congr 2
    rw [show (2 : Nat) ^ 8 = 256 from rfl, Nat.mul_comm (2 ^ (8 * j)) 256, Nat.mul_assoc]

/-- Behind k rounds: the pattern's first k bits are laid over the text, from bit number t on, as far as it goes. -/
theorem turn_num (l : List UInt8) (t p k : Nat) : num (turn l t p k) = num l ^^^ (2 ^ t * (p % 2 ^ k)) % 2 ^ (8 * l.length) := by
  induction k with
  | zero => simp [turn, Nat.mod_one]
  | succ k ih =>
    have hp : p % 2 ^ (k + 1) = p % 2 ^ k ^^^ 2 ^ k * (p / 2 ^ k % 2) := by
      rw [add_xor k _ _ (Nat.mod_lt _ (Nat.two_pow_pos k)), Nat.pow_succ, Nat.mod_mul]
    rw [hp, mul_xor, Nat.xor_mod_two_pow, ← Nat.xor_assoc, ← ih, turn]
    unfold turn1
    rw [turn_length]
    by_cases h1 : p / 2 ^ k % 2 = 1
    · rw [h1, Nat.mul_one, ← Nat.pow_add]
      by_cases h2 : (t + k) / 8 < l.length
      · rw [if_pos ⟨rfl, h2⟩, num_set _ _ _ (by rw [turn_length]; exact h2) (Nat.pow_lt_pow_right (by decide) (show (t + k) % 8 < 8 by omega))]
        congr 1
        rw [← Nat.pow_add, show 8 * ((t + k) / 8) + (t + k) % 8 = t + k by omega, Nat.mod_eq_of_lt (Nat.pow_lt_pow_right (by decide) (by omega))]
      · rw [if_neg (fun h => h2 h.2)]
        have : 2 ^ (t + k) % 2 ^ (8 * l.length) = 0 := by
          obtain ⟨d, hd⟩ : ∃ d, t + k = 8 * l.length + d := ⟨t + k - 8 * l.length, by omega⟩
          rw [hd, Nat.pow_add, Nat.mul_mod_right]
        rw [this, Nat.xor_zero]
    · rw [if_neg (fun h => h1 h.1), show p / 2 ^ k % 2 = 0 by omega, Nat.mul_zero, Nat.mul_zero, Nat.zero_mod, Nat.xor_zero]

/-- ONE RUN OF UP TO 32 TURNED BITS: the register tells it. -/
theorem turn_told (l : List UInt8) (t p : Nat) (ht : t ≤ 8 * l.length) (hp : p < 4294967296) : upd 4294967295 (turn l t p 32) = upd 4294967295 l ↔ turn l t p 32 = l := by
  have h := turn_num l t p 32
  rw [Nat.mod_eq_of_lt (show p < 2 ^ 32 from hp)] at h
  have h2 : (2 ^ t * p) % 2 ^ (8 * l.length) = 2 ^ t * (p % 2 ^ (8 * l.length - t)) := by
    conv => lhs; rw [show 8 * l.length = t + (8 * l.length - t) by omega, Nat.pow_add]
    rw [Nat.mul_mod_mul_left]
  rw [h2] at h
  exact burst l (turn l t p 32) (turn_length l t p 32) t _ ht (Nat.lt_of_le_of_lt (Nat.mod_le _ _) hp) h

end Go.Proofs.YtkaaabnahpmobaaDoor
