/-
  Plain fact: a frame in which one run of at most 32 bits is turned is never read. No condition.
-/
import Derived.Test.YtkaaabnahpmobaaDoorFplain
namespace Go.Proofs.YtkaaabnahpmobaaDoor
open Go.RowKit
set_option linter.unusedVariables false

theorem num_split (x y : List UInt8) : num (x ++ y) = num x + 2 ^ (8 * x.length) * num y := by
  induction x with
  | nil => simp [num]
  | cons c r ih =>
    rw [List.cons_append, num_cons, num_cons, ih, List.length_cons, Nat.mul_add 8, Nat.pow_add]
    rw [Nat.mul_add, ← Nat.mul_assoc, Nat.mul_comm (2 ^ (8 * r.length)) (2 ^ (8 * 1))]
    rw [show (2 : Nat) ^ (8 * 1) = 256 by decide]
    omega

theorem xor_div_pow (a b n : Nat) : (a ^^^ b) / 2 ^ n = a / 2 ^ n ^^^ b / 2 ^ n := by
  apply Nat.eq_of_testBit_eq; intro i
  simp [Nat.testBit_xor, Nat.testBit_div_two_pow]

theorem num_take (l : List UInt8) (k : Nat) (h : k ≤ l.length) : num (l.take k) = num l % 2 ^ (8 * k) ∧ num (l.drop k) = num l / 2 ^ (8 * k) := by
  have h1 := num_split (l.take k) (l.drop k)
  have h2 : (l.take k).length = k := by rw [List.length_take]; omega
  have h3 := num_lt (l.take k)
  rw [List.take_append_drop, h2] at h1
  rw [h2] at h3
  rw [h1]
  exact ⟨by rw [Nat.add_mul_mod_self_left, Nat.mod_eq_of_lt h3], by rw [Nat.add_mul_div_left _ _ (Nat.two_pow_pos _), Nat.div_eq_of_lt h3, Nat.zero_add]⟩

/-- The part of a run of turned bits that falls behind k bytes, and the one that falls into them. -/
theorem turned_parts (l m : List UInt8) (t p k : Nat) (hl : m.length = l.length) (hk : k ≤ l.length) (hp : p < 4294967296) (ht : t ≤ 8 * l.length) (h : num m = num l ^^^ 2 ^ t * p) :
    (∃ q, q < 4294967296 ∧ num (m.take k) = num (l.take k) ^^^ 2 ^ (min t (8 * k)) * q) ∧
    (∃ s q, q < 4294967296 ∧ s ≤ 8 * (l.length - k) ∧ num (m.drop k) = num (l.drop k) ^^^ 2 ^ s * q) := by
  obtain ⟨a1, a2⟩ := num_take l k hk
  obtain ⟨b1, b2⟩ := num_take m k (by omega)
  rw [a1, a2, b1, b2, h, Nat.xor_mod_two_pow, xor_div_pow]
  by_cases hc : t < 8 * k
  · refine ⟨⟨p % 2 ^ (8 * k - t), Nat.lt_of_le_of_lt (Nat.mod_le _ _) hp, ?_⟩, ⟨0, p / 2 ^ (8 * k - t), Nat.lt_of_le_of_lt (Nat.div_le_self _ _) hp, by omega, ?_⟩⟩
    · rw [Nat.min_eq_left (by omega)]
      congr 1
      conv => lhs; rw [show 8 * k = t + (8 * k - t) by omega, Nat.pow_add]
      rw [Nat.mul_mod_mul_left]
    · congr 1
      rw [Nat.pow_zero, Nat.one_mul]
      conv => lhs; rw [show 8 * k = t + (8 * k - t) by omega, Nat.pow_add]
      rw [Nat.mul_div_mul_left _ _ (Nat.two_pow_pos _)]
  · refine ⟨⟨0, by decide, ?_⟩, ⟨t - 8 * k, p, hp, by omega, ?_⟩⟩
    · congr 1
      rw [Nat.mul_zero, show t = 8 * k + (t - 8 * k) by omega, Nat.pow_add, Nat.mul_assoc, Nat.mul_mod_right]
    · congr 1
      conv => lhs; rw [show t = 8 * k + (t - 8 * k) by omega, Nat.pow_add, Nat.mul_assoc]
      rw [Nat.mul_div_cancel_left _ (Nat.two_pow_pos _)]

theorem closed_told {w m : List UInt8} {t p : Nat} (hl : m.length = w.length) (h4 : 4 ≤ w.length) (ht : t ≤ 8 * w.length) (hp : p < 4294967296) (h : num m = num w ^^^ 2 ^ t * p) (hc : closedB w = true) (hne : m ≠ w) : closedB m = false := by
  have hb := burst w m hl t p ht hp h
  cases hm : closedB m with
  | false => rfl
  | true =>
    rw [closedB_iff _ (by omega)] at hm
    rw [closedB_iff _ h4] at hc
    exact absurd (hb.1 (hm.trans hc.symm)) hne

/-- A frame in which one run of up to 32 bits is turned is never read. -/
theorem decF_turned {kind seq : Nat} {body : List UInt8} (h1 : 1 ≤ kind) (h2 : kind ≤ 7) (h3 : body.length ≤ 16384) (h4 : seq ≤ 1099511627776) (m r : List UInt8) (t p : Nat) (hp : p < 4294967296)
    (hl : m.length = (frameF kind seq body).length) (ht : t ≤ 8 * (frameF kind seq body).length) (h : num m = num (frameF kind seq body) ^^^ 2 ^ t * p) (hne : m ≠ frameF kind seq body) :
    decF (m ++ r) = (Fr.none, 0, 61) ∨ decF (m ++ r) = (Fr.none, 0, 62) := by
  have hN := frameF_len kind seq body
  obtain ⟨⟨q, hq, e1⟩, ⟨s, q', hq', hs, e2⟩⟩ := turned_parts (frameF kind seq body) m t p 16 hl (by omega) hp ht h
  have t16 : (frameF kind seq body).take 16 = headF kind body.length seq := by unfold frameF; exact take_app16 (headF_len _ _ _)
  have d16 : (frameF kind seq body).drop 16 = body ++ four (sumN 0 body) := by unfold frameF; exact drop_app16 (headF_len _ _ _)
  rw [t16] at e1
  rw [d16] at e2
  have hml : (m.take 16).length = 16 := by rw [List.length_take]; omega
  have hmd : (m.drop 16).length = body.length + 4 := by rw [List.length_drop]; omega
  have hsp : m ++ r = m.take 16 ++ (m.drop 16 ++ r) := by rw [← List.append_assoc, List.take_append_drop]
  by_cases hh : m.take 16 = headF kind body.length seq
  · right
    have hr : m.drop 16 ≠ body ++ four (sumN 0 body) := by
      intro hr
      apply hne
      rw [← List.take_append_drop 16 m, hh, hr]; rfl
    have hc := closed_told (w := body ++ four (sumN 0 body)) (m := m.drop 16) (by rw [hmd]; simp [four]) (by simp [four]) (by simp [four]; omega) hq' e2 (closedB_whole _) hr
    have hpk : peekF (m ++ r) = (kind, seq, 20 + body.length, 0) := by rw [hsp, hh]; exact peekF_laid h1 h2 h3 h4 _
    unfold decF
    rw [hpk]
    simp only
    have e3 : ((m ++ r).take (20 + body.length)).drop 16 = m.drop 16 := by
      rw [List.take_append_of_le_length (by omega), List.take_of_length_le (by omega)]
    rw [if_neg (by simp), if_neg (by simp; omega), e3, hc, if_pos rfl]
  · have hcl : closedB (m.take 16) = false := closed_told (w := headF kind body.length seq) (by rw [hml, headF_len]) (by rw [headF_len]; decide) (by rw [headF_len]; omega) hq e1 (closedB_whole _) hh
    have e0 : (m ++ r).take 16 = m.take 16 := by rw [List.take_append_of_le_length (by omega)]
    by_cases h0 : (m ++ r).getD 0 0 ≠ 165
    · left
      have hpk : peekF (m ++ r) = (0, 0, 0, 61) := by unfold peekF; rw [if_neg (by simp; omega), if_pos h0]
      unfold decF; rw [hpk]; rfl
    · right
      have hpk : peekF (m ++ r) = (0, 0, 0, 62) := by unfold peekF; rw [if_neg (by simp; omega), if_neg h0, e0, hcl, if_pos rfl]
      unfold decF; rw [hpk]; rfl

theorem turn_is (l : List UInt8) (t p : Nat) (ht : t ≤ 8 * l.length) (hp : p < 4294967296) : ∃ q, q < 4294967296 ∧ num (turn l t p 32) = num l ^^^ 2 ^ t * q := by
  have h := turn_num l t p 32
  rw [Nat.mod_eq_of_lt (show p < 2 ^ 32 from hp)] at h
  have h2 : (2 ^ t * p) % 2 ^ (8 * l.length) = 2 ^ t * (p % 2 ^ (8 * l.length - t)) := by
    conv => lhs; rw [show 8 * l.length = t + (8 * l.length - t) by omega, Nat.pow_add]
    rw [Nat.mul_mod_mul_left]
  rw [h2] at h
  exact ⟨_, Nat.lt_of_le_of_lt (Nat.mod_le _ _) hp, h⟩
end Go.Proofs.YtkaaabnahpmobaaDoor
