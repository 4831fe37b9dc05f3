/-
  Plain facts on whole numbers and bits: how the walk's own spelling of zig and zag comes to plain arithmetic. No condition beyond the bounds that each line names.
  Plain facts on variable length numbers: what is written, how long it is, how it is read back. Over whole numbers below 2^64.
-/
import Derived.Test.YtffhejaeliphcaaDoorMBase
import Derived.Laws.BitsAllLaws
import Derived.Laws.DeepNot64
namespace Go.Proofs.YtffhejaeliphcaaDoor
open Go.RowKit
set_option linter.unusedVariables false

def zigN (v : Int) : Int := if 0 ≤ v then 2 * v else -2 * v - 1
def zagN (u : Int) : Int := if u % 2 = 0 then u / 2 else -(u / 2) - 1

theorem nat_xor_ones (x n : Nat) (h : x < 2 ^ n) : x ^^^ (2 ^ n - 1) = 2 ^ n - 1 - x := by
  apply Nat.eq_of_testBit_eq
  intro i
  rw [Nat.testBit_xor, Nat.testBit_two_pow_sub_one, show 2 ^ n - 1 - x = 2 ^ n - (x + 1) by omega, Nat.testBit_two_pow_sub_succ h]
  by_cases hi : i < n
  · simp [hi]
  · simp [hi]; exact Nat.testBit_lt_two_pow (Nat.lt_of_lt_of_le h (Nat.pow_le_pow_right (by decide) (by omega)))

theorem wrap_u64 (n : Int) : IntKind.u64.wrap n = n % 18446744073709551616 := by simp [IntKind.wrap, IntKind.bits, IntKind.signed]

theorem zig_bits (v : Int) (h1 : -9223372036854775808 ≤ v) (h2 : v ≤ 9223372036854775807) :
    bits .xor .u64 (IntKind.u64.wrap (IntKind.u64.wrap v * 2)) (IntKind.u64.wrap (v / 9223372036854775808)) = zigN v := by
  rw [wrap_u64, wrap_u64, wrap_u64]
  unfold zigN
  by_cases h : 0 ≤ v
  · rw [if_pos h, u64_xor _ _ (by omega) (by omega) (by omega) (by omega)]
    rw [show (v / 9223372036854775808 % 18446744073709551616).toNat = 0 by omega, Nat.xor_zero]
    omega
  · rw [if_neg h, u64_xor _ _ (by omega) (by omega) (by omega) (by omega)]
    rw [show (v / 9223372036854775808 % 18446744073709551616).toNat = 2 ^ 64 - 1 by omega, nat_xor_ones _ _ (by omega)]
    omega

theorem wrap64_eq (n : Int) : wrap64 n = (n + 9223372036854775808) % 18446744073709551616 - 9223372036854775808 := by
  rw [← IntWalk.i64_left, IntKind.wrap_i64]

theorem bits_xor_comm (k : IntKind) (a b : Int) : bits .xor k a b = bits .xor k b a := by
  unfold bits; simp only [BitVec.xor_comm]

theorem u64_and1 (u : Int) (h1 : 0 ≤ u) (h2 : u < 18446744073709551616) : bits .and .u64 u 1 = u % 2 := by
  rw [u64_and _ _ h1 h2 (by omega) (by omega), show (1 : Int).toNat = 1 from rfl, nat_mask1]; omega

theorem bits_xor_zero_i64 (x : Int) (h1 : -9223372036854775808 ≤ x) (h2 : x ≤ 9223372036854775807) : bits .xor .i64 x 0 = x := by
  have e : bits .xor .i64 x 0 = IntKind.i64.wrap (((BitVec.ofInt 64 x : BitVec 64) ^^^ (0#64 : BitVec 64)).toNat : Int) := rfl
  rw [e, BitVec.xor_zero, BitVec.toNat_ofInt, IntKind.wrap_i64]
  omega

theorem zag_bits (u : Int) (h1 : 0 ≤ u) (h2 : u < 18446744073709551616) :
    bits .xor .i64 (u / 2) (wrap64 (-wrap64 (bits .and .u64 u 1))) = zagN u := by
  rw [u64_and1 u h1 h2]
  unfold zagN
  by_cases h : u % 2 = 0
  · rw [if_pos h, h]
    rw [show wrap64 (-wrap64 0) = 0 by simp [wrap64_eq]]
    exact bits_xor_zero_i64 _ (by omega) (by omega)
  · rw [if_neg h, show u % 2 = 1 by omega]
    rw [show wrap64 (-wrap64 1) = -1 by simp [wrap64_eq], bits_xor_comm]
    have := i64_not (u / 2).toNat (by omega)
    rw [show (((u / 2).toNat : Nat) : Int) = u / 2 by omega] at this
    rw [this]; omega


theorem zag_zig (v : Int) : zagN (zigN v) = v := by unfold zagN zigN; split <;> split <;> omega
theorem zig_zag (u : Int) (h : 0 ≤ u) : zigN (zagN u) = u := by unfold zagN zigN; split <;> split <;> omega
theorem zig_bd (v : Int) (h1 : -9223372036854775808 ≤ v) (h2 : v ≤ 9223372036854775807) : 0 ≤ zigN v ∧ zigN v < 18446744073709551616 := by unfold zigN; split <;> omega
theorem zag_bd (u : Int) (h1 : 0 ≤ u) (h2 : u < 18446744073709551616) : -9223372036854775808 ≤ zagN u ∧ zagN u ≤ 9223372036854775807 := by unfold zagN; split <;> omega
theorem zig_small (v w : Int) (h1 : 0 ≤ v) (h2 : v ≤ w) : zigN v ≤ zigN w ∧ zigN (-v) ≤ zigN w := by
  unfold zigN; constructor <;> (split <;> split <;> omega)

end Go.Proofs.YtffhejaeliphcaaDoor

namespace Go.Proofs.YtffhejaeliphcaaDoor
open Go.RowKit
set_option linter.unusedVariables false

def enc (u : Nat) : List UInt8 := if u < 128 then [UInt8.ofNat u] else UInt8.ofNat (128 + u % 128) :: enc (u / 128)
termination_by u
decreasing_by omega

theorem enc_lt {u : Nat} (h : u < 128) : enc u = [UInt8.ofNat u] := by rw [enc, if_pos h]
theorem enc_ge {u : Nat} (h : 128 ≤ u) : enc u = UInt8.ofNat (128 + u % 128) :: enc (u / 128) := by rw [enc, if_neg (by omega)]

theorem enc_len_pos (u : Nat) : 1 ≤ (enc u).length := by
  rw [enc]; split <;> simp

theorem enc_len_le (k u : Nat) (h : u < 128 ^ (k + 1)) : (enc u).length ≤ k + 1 := by
  induction k generalizing u with
  | zero => rw [enc_lt (by simpa using h)]; simp
  | succ k ih =>
    by_cases hu : u < 128
    · rw [enc_lt hu]; simp
    · rw [enc_ge (by omega)]
      have := ih (u / 128) (by rw [Nat.div_lt_iff_lt_mul (by decide), ← Nat.pow_succ]; exact h)
      simp only [List.length_cons]; omega

theorem enc_len10 (u : Nat) (h : u < 18446744073709551616) : (enc u).length ≤ 10 :=
  enc_len_le 9 u (Nat.lt_of_lt_of_le h (by decide))

theorem or128 (y : Nat) (h : y < 256) : y ||| 128 = 128 + y % 128 := by
  have : ∀ y : Fin 256, y.val ||| 128 = 128 + y.val % 128 := by decide +kernel
  exact this ⟨y, h⟩

theorem byte_or (x : Nat) : bits .or .u8 ((x : Int) % 256) 128 = ((UInt8.ofNat (128 + x % 128)).toNat : Int) := by
  rw [u8_or _ _ (by omega) (by omega) (by omega) (by omega), show ((x : Int) % 256).toNat = x % 256 by omega, show (128 : Int).toNat = 128 from rfl, or128 _ (by omega)]
  simp only [UInt8.toNat_ofNat']
  omega

theorem byte_of (x : Nat) : (x : Int) % 256 = ((UInt8.ofNat x).toNat : Int) := by
  simp only [UInt8.toNat_ofNat']; omega

/-- Reading a number, as the program does: k bytes are gone, and u is what they have given. -/
def decGo : List UInt8 → Nat → Nat → Nat × Nat × Nat
  | [], _, _ => (0, 0, 10)
  | c :: r, k, u =>
    if k = 9 ∧ 1 < c.toNat then (0, 0, 12)
    else if 128 ≤ c.toNat then decGo r (k + 1) (u + c.toNat % 128 * 128 ^ k)
    else if c.toNat = 0 ∧ 0 < k then (0, 0, 11)
    else (u + c.toNat % 128 * 128 ^ k, k + 1, 0)

def dec (l : List UInt8) : Nat × Nat × Nat := decGo l 0 0

theorem decGo_bd (l : List UInt8) (k u : Nat) (hk : k ≤ 9) (hu : u < 128 ^ k) :
    (decGo l k u).1 < 18446744073709551616 ∧ (decGo l k u).2.1 ≤ 10 ∧ (decGo l k u).2.1 ≤ k + l.length ∧ (decGo l k u).2.2 ≤ 12 := by
  induction l generalizing k u with
  | nil => simp [decGo]
  | cons c r ih =>
    have hc := c.toNat_lt
    rw [decGo]
    have hp : 0 < 128 ^ k := Nat.pow_pos (by decide)
    have hm : c.toNat % 128 * 128 ^ k ≤ 127 * 128 ^ k := Nat.mul_le_mul_right _ (by omega)
    split
    · simp
    · rename_i h9
      split
      · have hk9 : k ≠ 9 := by omega
        have := ih (k + 1) (u + c.toNat % 128 * 128 ^ k) (by omega) (by rw [Nat.pow_succ]; omega)
        simp only [List.length_cons]; omega
      · split
        · simp
        · simp only [List.length_cons]
          refine ⟨?_, by omega, by omega, by omega⟩
          by_cases hk9 : k = 9
          · subst hk9
            have : c.toNat % 128 * 128 ^ 9 ≤ 1 * 128 ^ 9 := Nat.mul_le_mul_right _ (by omega)
            omega
          · have : 128 ^ (k + 1) ≤ 128 ^ 9 := Nat.pow_le_pow_right (by decide) (by omega)
            rw [Nat.pow_succ] at this
            omega

theorem dec_bd (l : List UInt8) : (dec l).1 < 18446744073709551616 ∧ (dec l).2.1 ≤ 10 ∧ (dec l).2.1 ≤ l.length ∧ (dec l).2.2 ≤ 12 := by
  have := decGo_bd l 0 0 (by omega) (by simp); simpa [dec] using this

/-- What a round of Decode lays over u. -/
theorem dec_or (u c k : Nat) (hk : k ≤ 9) (hu : u < 128 ^ k) (hc : c < 256) (h9 : ¬ (k = 9 ∧ 1 < c)) :
    bits .or .u64 (u : Int) (IntKind.u64.wrap (IntKind.u64.wrap (bits .and .u8 (c : Int) 127) * 2 ^ (7 * k))) = ((u + c % 128 * 128 ^ k : Nat) : Int) := by
  have hp : 0 < 128 ^ k := Nat.pow_pos (by decide)
  have hk9 : 128 ^ k ≤ 128 ^ 9 := Nat.pow_le_pow_right (by decide) hk
  have hm : c % 128 * 128 ^ k ≤ 127 * 128 ^ k := Nat.mul_le_mul_right _ (by omega)
  have hlt : c % 128 * 128 ^ k < 18446744073709551616 := by
    by_cases hk9 : k = 9
    · subst hk9
      have : c % 128 * 128 ^ 9 ≤ 1 * 128 ^ 9 := Nat.mul_le_mul_right _ (by omega)
      omega
    · have : 128 ^ (k + 1) ≤ 128 ^ 9 := Nat.pow_le_pow_right (by decide) (by omega)
      rw [Nat.pow_succ] at this
      omega
  rw [u8_and _ _ (by omega) (by omega) (by omega) (by omega), show ((c : Int)).toNat = c from rfl, show (127 : Int).toNat = 127 from rfl, nat_mask7]
  rw [IntWalk.u64_in ((c % 128 : Nat) : Int) (by omega)]
  rw [show ((c % 128 : Nat) : Int) * 2 ^ (7 * k) = ((c % 128 * 128 ^ k : Nat) : Int) by push_cast; rw [Int.pow_mul]; rfl]
  rw [IntWalk.u64_in _ (by omega), u64_or_nat _ _ (by omega) hlt]
  rw [Nat.or_comm, nat_join (7 * k) _ _ (by rw [show 2 ^ (7 * k) = 128 ^ k by rw [Nat.pow_mul]]; exact Nat.mul_mod_left _ _) (by rw [Nat.pow_mul]; exact hu), Nat.add_comm]

/-- What bytes give, the lowest first. -/
def val : List UInt8 → Nat
  | [] => 0
  | c :: r => c.toNat % 128 + 128 * val r

theorem val_snoc (l : List UInt8) (c : UInt8) : val (l ++ [c]) = val l + c.toNat % 128 * 128 ^ l.length := by
  induction l with
  | nil => simp [val]
  | cons d r ih => simp only [List.cons_append, val, ih, List.length_cons, Nat.pow_succ]; rw [Nat.mul_add, ← Nat.mul_assoc 128, Nat.mul_comm 128 (c.toNat % 128), Nat.mul_assoc, Nat.mul_comm 128 (128 ^ _)]; omega

theorem val_lt (l : List UInt8) : val l < 128 ^ l.length := by
  induction l with
  | nil => simp [val]
  | cons d r ih => simp only [val, List.length_cons, Nat.pow_succ]; omega

theorem val_drop_le (l : List UInt8) (m : Nat) : val (l.drop m) ≤ val l := by
  induction m generalizing l with
  | zero => simp
  | succ m ih =>
    cases l with
    | nil => simp
    | cons d r => simp only [List.drop_succ_cons, val]; have := ih r; omega

theorem drop_at {l : List UInt8} {k : Nat} {c : UInt8} (h : l[k]? = some c) : l.drop k = c :: l.drop (k + 1) := by
  obtain ⟨hk, rfl⟩ := List.getElem?_eq_some_iff.1 h
  exact List.drop_eq_getElem_cons hk

theorem take_snoc {α : Type} {l : List α} {k : Nat} {c : α} (h : l[k]? = some c) : l.take (k + 1) = l.take k ++ [c] := by
  rw [List.take_add_one, h]; rfl

/-- One round more: a byte of 128 or above. -/
theorem dec_step {l : List UInt8} {k : Nat} {c : UInt8} (h : l[k]? = some c) (hk : k < 9) (hc : 128 ≤ c.toNat) (hd : dec l = decGo (l.drop k) k (val (l.take k))) :
    dec l = decGo (l.drop (k + 1)) (k + 1) (val (l.take (k + 1))) := by
  have hkl := (List.getElem?_eq_some_iff.1 h).1
  rw [drop_at h, decGo, if_neg (by omega), if_pos hc] at hd
  rw [hd, take_snoc h, val_snoc, List.length_take, Nat.min_eq_left (by omega)]

theorem dec_end {l : List UInt8} {k : Nat} (hk : l.length ≤ k) (hd : dec l = decGo (l.drop k) k (val (l.take k))) : dec l = (0, 0, 10) := by
  rw [hd, List.drop_eq_nil_of_le hk, decGo]

theorem dec_wide {l : List UInt8} {c : UInt8} (h : l[9]? = some c) (hc : 1 < c.toNat) (hd : dec l = decGo (l.drop 9) 9 (val (l.take 9))) : dec l = (0, 0, 12) := by
  rw [hd, drop_at h, decGo, if_pos ⟨rfl, hc⟩]

theorem dec_long {l : List UInt8} {k : Nat} {c : UInt8} (h : l[k]? = some c) (hk : 0 < k) (hc : c.toNat = 0) (hd : dec l = decGo (l.drop k) k (val (l.take k))) : dec l = (0, 0, 11) := by
  rw [hd, drop_at h, decGo, if_neg (by omega), if_neg (by omega), if_pos ⟨hc, hk⟩]

theorem dec_done {l : List UInt8} {k : Nat} {c : UInt8} (h : l[k]? = some c) (h9 : ¬ (k = 9 ∧ 1 < c.toNat)) (hc : c.toNat < 128) (hz : ¬ (c.toNat = 0 ∧ 0 < k)) (hd : dec l = decGo (l.drop k) k (val (l.take k))) :
    dec l = (val (l.take (k + 1)), k + 1, 0) := by
  have hkl := (List.getElem?_eq_some_iff.1 h).1
  rw [hd, drop_at h, decGo, if_neg h9, if_neg (by omega), if_neg hz, take_snoc h, val_snoc, List.length_take, Nat.min_eq_left (by omega)]

def encs (us : List UInt64) : List UInt8 := us.flatMap fun u => enc u.toNat
def encAll (us : List UInt64) : List UInt8 := enc us.length ++ encs us

theorem encs_drop {us : List UInt64} {k : Nat} {x : UInt64} (h : us[k]? = some x) : encs (us.drop k) = enc x.toNat ++ encs (us.drop (k + 1)) := by
  obtain ⟨hk, rfl⟩ := List.getElem?_eq_some_iff.1 h
  rw [List.drop_eq_getElem_cons hk]; rfl

/-- Reading n numbers from place p on. -/
def decAllGo (l : List UInt8) : Nat → Nat → List UInt64 → List UInt64 × Nat × Nat
  | 0, p, acc => (acc, p, 0)
  | n + 1, p, acc =>
    if (dec (l.drop p)).2.2 ≠ 0 then ([], 0, (dec (l.drop p)).2.2)
    else decAllGo l n (p + (dec (l.drop p)).2.1) (acc ++ [UInt64.ofNat (dec (l.drop p)).1])

def decAll (l : List UInt8) (most : Int) : List UInt64 × Nat × Nat :=
  if (dec l).2.2 ≠ 0 then ([], 0, (dec l).2.2)
  else if most.toNat < (dec l).1 then ([], 0, 24)
  else decAllGo l (dec l).1 (dec l).2.1 []

theorem decGo_pos (l : List UInt8) (k u : Nat) (h : (decGo l k u).2.2 = 0) : k < (decGo l k u).2.1 := by
  induction l generalizing k u with
  | nil => simp [decGo] at h
  | cons c r ih =>
    rw [decGo] at h ⊢
    split at h
    · simp at h
    · rename_i h9
      rw [if_neg h9]
      split at h
      · rename_i h1; rw [if_pos h1]; have := ih _ _ h; omega
      · rename_i h1
        rw [if_neg h1]
        split at h
        · simp at h
        · rename_i h2; rw [if_neg h2]; simp

theorem dec_pos (l : List UInt8) (h : (dec l).2.2 = 0) : 0 < (dec l).2.1 := decGo_pos l 0 0 h

theorem decGo_err (l : List UInt8) (k u : Nat) (h : (decGo l k u).2.2 ≠ 0) : (decGo l k u).1 = 0 ∧ (decGo l k u).2.1 = 0 := by
  induction l generalizing k u with
  | nil => simp [decGo]
  | cons c r ih =>
    rw [decGo] at h ⊢
    split at h
    · rename_i h9; rw [if_pos h9]; simp
    · rename_i h9
      rw [if_neg h9]
      split at h
      · rename_i h1; rw [if_pos h1]; exact ih _ _ h
      · rename_i h1
        rw [if_neg h1]
        split at h
        · rename_i h2; rw [if_pos h2]; simp
        · simp at h

theorem dec_err (l : List UInt8) (h : (dec l).2.2 ≠ 0) : (dec l).1 = 0 ∧ (dec l).2.1 = 0 := decGo_err l 0 0 h

/-- What is read is what would be written. -/
theorem decGo_enc (l : List UInt8) : ∀ (k a u n : Nat), decGo l k a = (u, n, 0) → ∃ x, u = a + x * 128 ^ k ∧ k < n ∧ n ≤ k + l.length ∧ enc x = l.take (n - k) ∧ (0 < k → 0 < x) := by
  induction l with
  | nil => intro k a u n h; simp [decGo] at h
  | cons c r ih =>
    intro k a u n h
    have hc := c.toNat_lt
    rw [decGo] at h
    split at h
    · simp at h
    · split at h
      · rename_i h1
        obtain ⟨x, hu, hk, hn, he, hx⟩ := ih _ _ _ _ h
        have hx0 := hx (by omega)
        refine ⟨c.toNat % 128 + 128 * x, ?_, by omega, by simp only [List.length_cons]; omega, ?_, fun _ => by omega⟩
        · rw [hu, Nat.pow_succ, Nat.add_mul, Nat.add_assoc, Nat.mul_comm (128 ^ k) 128, ← Nat.mul_assoc, Nat.mul_comm x 128]
        · rw [enc_ge (by omega), show (c.toNat % 128 + 128 * x) / 128 = x by omega, he, show n - k = (n - (k + 1)) + 1 by omega, List.take_succ_cons]
          congr 1
          apply UInt8.toNat_inj.1
          simp only [UInt8.toNat_ofNat']
          omega
      · rename_i h1
        split at h
        · simp at h
        · rename_i h2
          simp only [Prod.mk.injEq] at h
          obtain ⟨rfl, rfl, _⟩ := h
          refine ⟨c.toNat, by rw [Nat.mod_eq_of_lt (by omega : c.toNat < 128)], by omega, by simp only [List.length_cons]; omega, ?_, fun _ => by omega⟩
          rw [enc_lt (by omega), show k + 1 - k = 1 by omega]
          simp

theorem dec_enc {l : List UInt8} {u n : Nat} (h : dec l = (u, n, 0)) : enc u = l.take n ∧ 1 ≤ n ∧ n ≤ l.length := by
  obtain ⟨x, h1, h2, h3, h4, _⟩ := decGo_enc l 0 0 u n h
  simp at h1 h4 h3
  subst h1
  exact ⟨h4, by omega, h3⟩

/-- There and back, whatever stands behind. -/
theorem decGo_of_enc (n : Nat) : ∀ (x k a : Nat) (r : List UInt8), x ≤ n → x * 128 ^ k < 18446744073709551616 → (0 < k → 0 < x) → k ≤ 9 → decGo (enc x ++ r) k a = (a + x * 128 ^ k, k + (enc x).length, 0) := by
  induction n with
  | zero =>
    intro x k a r hx hb hk hk9
    obtain rfl : x = 0 := by omega
    rw [enc_lt (by decide)]
    simp only [List.cons_append, List.nil_append, decGo]
    rw [if_neg (by simp), if_neg (by simp), if_neg (by simp; omega)]
    simp
  | succ n ih =>
    intro x k a r hx hb hk hk9
    by_cases hlt : x < 128
    · rw [enc_lt hlt]
      have ht : (UInt8.ofNat x).toNat = x := by simp only [UInt8.toNat_ofNat']; omega
      simp only [List.cons_append, List.nil_append, decGo, ht]
      have h9 : ¬ (k = 9 ∧ 1 < x) := by
        rintro ⟨rfl, h1⟩
        have : 2 * 128 ^ 9 ≤ x * 128 ^ 9 := Nat.mul_le_mul_right _ h1
        omega
      rw [if_neg h9, if_neg (by omega), if_neg (by omega), Nat.mod_eq_of_lt hlt]
      simp
    · have h9 : k ≠ 9 := by
        rintro rfl
        have : 128 * 128 ^ 9 ≤ x * 128 ^ 9 := Nat.mul_le_mul_right _ (by omega)
        omega
      rw [enc_ge (by omega)]
      have ht : (UInt8.ofNat (128 + x % 128)).toNat = 128 + x % 128 := by simp only [UInt8.toNat_ofNat']; omega
      simp only [List.cons_append, decGo, ht]
      rw [if_neg (by omega), if_pos (by omega)]
      have hxe : x / 128 * 128 ^ (k + 1) = x / 128 * 128 * 128 ^ k := by rw [Nat.pow_succ, Nat.mul_comm (128 ^ k), Nat.mul_assoc]
      have hxx : x * 128 ^ k = x / 128 * 128 * 128 ^ k + x % 128 * 128 ^ k := by rw [← Nat.add_mul]; congr 1; omega
      rw [ih (x / 128) (k + 1) _ r (by omega) (by rw [hxe]; omega) (fun _ => by omega) (by omega), hxe, show (128 + x % 128) % 128 = x % 128 by omega, hxx]
      simp only [Prod.mk.injEq, List.length_cons, and_true]
      omega

theorem dec_of_enc (u : Nat) (r : List UInt8) (h : u < 18446744073709551616) : dec (enc u ++ r) = (u, (enc u).length, 0) := by
  have := decGo_of_enc u u 0 0 r (Nat.le_refl _) (by simpa using h) (by omega) (by omega)
  simpa [dec] using this

/-- No shorter beginning is a number. -/
theorem decGo_short (n : Nat) : ∀ (x k a i : Nat), x ≤ n → x * 128 ^ k < 18446744073709551616 → k ≤ 9 → i < (enc x).length → decGo ((enc x).take i) k a = (0, 0, 10) := by
  induction n with
  | zero =>
    intro x k a i hx hb hk9 hi
    obtain rfl : x = 0 := by omega
    rw [enc_lt (by decide)] at hi ⊢
    simp at hi; subst hi; simp [decGo]
  | succ n ih =>
    intro x k a i hx hb hk9 hi
    by_cases hlt : x < 128
    · rw [enc_lt hlt] at hi ⊢
      simp at hi; subst hi; simp [decGo]
    · have h9 : k ≠ 9 := by
        rintro rfl
        have : 128 * 128 ^ 9 ≤ x * 128 ^ 9 := Nat.mul_le_mul_right _ (by omega)
        omega
      rw [enc_ge (by omega)] at hi ⊢
      cases i with
      | zero => simp [decGo]
      | succ i =>
        have ht : (UInt8.ofNat (128 + x % 128)).toNat = 128 + x % 128 := by simp only [UInt8.toNat_ofNat']; omega
        simp only [List.take_succ_cons, decGo, ht]
        rw [if_neg (by omega), if_pos (by omega)]
        have hxe : x / 128 * 128 ^ (k + 1) = x / 128 * 128 * 128 ^ k := by rw [Nat.pow_succ, Nat.mul_comm (128 ^ k), Nat.mul_assoc]
        have hxx : x * 128 ^ k = x / 128 * 128 * 128 ^ k + x % 128 * 128 ^ k := by rw [← Nat.add_mul]; congr 1; omega
        exact ih (x / 128) (k + 1) _ i (by omega) (by rw [hxe]; omega) (by omega) (by simp at hi; omega)

theorem dec_short (u i : Nat) (h : u < 18446744073709551616) (hi : i < (enc u).length) : dec ((enc u).take i) = (0, 0, 10) :=
  decGo_short u u 0 0 i (Nat.le_refl _) (by simpa using h) (by omega) hi

theorem encs_len (us : List UInt64) : (encs us).length ≤ 10 * us.length := by
  induction us with
  | nil => simp [encs]
  | cons x r ih =>
    have := enc_len10 x.toNat (by have := x.toNat_lt; omega)
    simp only [encs, List.flatMap_cons, List.length_append, List.length_cons] at ih ⊢
    omega

theorem encAll_len (us : List UInt64) (h : us.length < 18446744073709551616) : (encAll us).length ≤ 10 * us.length + 10 := by
  have h1 := encs_len us
  have h2 := enc_len10 us.length h
  simp only [encAll, List.length_append]; omega

theorem decAllGo_encs (l : List UInt8) (r : List UInt8) : ∀ (us : List UInt64) (p : Nat) (acc : List UInt64), l.drop p = encs us ++ r → p ≤ l.length → decAllGo l us.length p acc = (acc ++ us, p + (encs us).length, 0) := by
  intro us
  induction us with
  | nil => intro p acc _ _; simp [decAllGo, encs]
  | cons x t ih =>
    intro p acc h hp
    have hx : x.toNat < 18446744073709551616 := by have := x.toNat_lt; omega
    have h' : l.drop p = enc x.toNat ++ (encs t ++ r) := by rw [h]; simp [encs]
    have hd := dec_of_enc x.toNat (encs t ++ r) hx
    rw [List.length_cons, decAllGo, h', hd]
    simp only [ne_eq, not_true, if_false]
    rw [ih (p + (enc x.toNat).length) _ (by rw [← List.drop_drop, h', List.drop_left]) (by
      have := congrArg List.length h'
      simp only [List.length_drop, List.length_append] at this
      have h1 := enc_len_pos x.toNat
      omega)]
    simp only [Prod.mk.injEq, encs, List.flatMap_cons, List.length_append, and_true]
    constructor
    · rw [show UInt64.ofNat x.toNat = x by simp]; simp
    · omega

theorem decAll_encAll (us : List UInt64) (r : List UInt8) (h : us.length < 9223372036854775808) : decAll (encAll us ++ r) (us.length : Int) = (us, (encAll us).length, 0) := by
  have hd : dec (encAll us ++ r) = (us.length, (enc us.length).length, 0) := by
    rw [encAll, List.append_assoc]; exact dec_of_enc _ _ (by omega)
  rw [decAll, hd]
  simp only [ne_eq, not_true, if_false, Int.toNat_natCast, Nat.lt_irrefl]
  rw [decAllGo_encs _ r us _ _ (by rw [encAll, List.append_assoc, List.drop_left]) (by simp [encAll])]
  simp [encAll]

theorem decAll_few (us : List UInt64) (h0 : 0 < us.length) (h : us.length < 9223372036854775808) : decAll (encAll us) ((us.length : Int) - 1) = ([], 0, 24) := by
  have hd : dec (encAll us) = (us.length, (enc us.length).length, 0) := dec_of_enc _ _ (by omega)
  rw [decAll, hd]
  simp only [ne_eq, not_true, if_false]
  rw [if_pos (by omega)]

end Go.Proofs.YtffhejaeliphcaaDoor
