/-
  Plain facts on the check sum: the register's step is linear and one to one; bytes are taken bit by bit. Over whole numbers below 2^32.
  The reference's Turn: a copy in which the bits of a pattern are turned: what it gives, and what that is as a number. Conditions: the argument reads as bytes; the place is below 2^60.
-/
import Derived.WalkKit
import Derived.Laws.BitsAllLaws
namespace Go.Proofs.YtffhejaeliphcaaDoor
open Go.RowKit
set_option linter.unusedVariables false

/-- One bit out of the register. -/
def bit1 (c : Nat) : Nat := c / 2 ^^^ (if c % 2 = 1 then 3988292384 else 0)

theorem xor_div2 (a b : Nat) : (a ^^^ b) / 2 = a / 2 ^^^ b / 2 := by
  apply Nat.eq_of_testBit_eq; intro i
  simp [Nat.testBit_div_two]
theorem xor_mod2 (a b : Nat) : (a ^^^ b) % 2 = (a % 2 + b % 2) % 2 := by
  have h : (a ^^^ b) % 2 ^ 1 = a % 2 ^ 1 ^^^ b % 2 ^ 1 := Nat.xor_mod_two_pow
  simp only [Nat.pow_one] at h
  rw [h]
  rcases Nat.mod_two_eq_zero_or_one a with ha | ha <;> rcases Nat.mod_two_eq_zero_or_one b with hb | hb <;> rw [ha, hb] <;> decide

theorem xor4 (a b p : Nat) : a ^^^ p ^^^ (b ^^^ p) = a ^^^ b := by
  rw [Nat.xor_comm b p, ← Nat.xor_assoc, Nat.xor_assoc a p p, Nat.xor_self, Nat.xor_zero]

theorem bit1_xor (a b : Nat) : bit1 (a ^^^ b) = bit1 a ^^^ bit1 b := by
  unfold bit1
  rw [xor_div2, xor_mod2]
  rcases Nat.mod_two_eq_zero_or_one a with ha | ha <;> rcases Nat.mod_two_eq_zero_or_one b with hb | hb <;> rw [ha, hb]
  · simp
  · simp [Nat.xor_assoc]
  · simp only [Nat.add_zero, Nat.reduceMod, if_true, Nat.zero_ne_one, if_false, Nat.xor_zero]
    rw [Nat.xor_assoc, Nat.xor_comm (b / 2), ← Nat.xor_assoc]
  · simp only [Nat.reduceAdd, Nat.reduceMod, if_true, Nat.zero_ne_one, if_false, Nat.xor_zero]
    exact (xor4 _ _ _).symm

theorem xor_eq_zero {a b : Nat} (h : a ^^^ b = 0) : a = b := by
  have : a ^^^ b ^^^ b = b := by rw [h, Nat.zero_xor]
  rwa [Nat.xor_assoc, Nat.xor_self, Nat.xor_zero] at this

theorem bit1_zero : bit1 0 = 0 := by decide
theorem bit1_lt (c : Nat) (h : c < 4294967296) : bit1 c < 4294967296 := by
  unfold bit1
  refine Nat.xor_lt_two_pow (n := 32) (by omega) ?_
  split <;> decide
theorem bit1_even (y : Nat) : bit1 (2 * y) = y := by
  unfold bit1; rw [if_neg (by omega), Nat.mul_div_cancel_left _ (by decide), Nat.xor_zero]

/-- One to one: nothing but 0 goes to 0. -/
theorem bit1_eq_zero (c : Nat) (h : c < 4294967296) (h0 : bit1 c = 0) : c = 0 := by
  unfold bit1 at h0
  have h1 := xor_eq_zero h0
  by_cases hc : c % 2 = 1
  · rw [if_pos hc] at h1; omega
  · rw [if_neg hc] at h1; omega

/-- n bits. -/
def bitN : Nat → Nat → Nat
  | 0, c => c
  | n + 1, c => bitN n (bit1 c)

theorem bitN_xor (n : Nat) : ∀ a b, bitN n (a ^^^ b) = bitN n a ^^^ bitN n b := by
  induction n with
  | zero => intro a b; rfl
  | succ n ih => intro a b; simp only [bitN]; rw [bit1_xor, ih]
theorem bitN_zero (n : Nat) : bitN n 0 = 0 := by
  induction n with
  | zero => rfl
  | succ n ih => simp only [bitN]; rw [bit1_zero, ih]
theorem bitN_lt (n : Nat) : ∀ c, c < 4294967296 → bitN n c < 4294967296 := by
  induction n with
  | zero => intro c h; exact h
  | succ n ih => intro c h; exact ih _ (bit1_lt c h)
theorem bitN_add (m n : Nat) : ∀ c, bitN (m + n) c = bitN n (bitN m c) := by
  induction m with
  | zero => intro c; simp [bitN]
  | succ m ih => intro c; rw [Nat.succ_add]; simp only [bitN]; exact ih _
theorem bitN_eq_zero (n : Nat) : ∀ c, c < 4294967296 → bitN n c = 0 → c = 0 := by
  induction n with
  | zero => intro c _ h; exact h
  | succ n ih => intro c h h0; exact bit1_eq_zero c h (ih _ (bit1_lt c h) h0)
theorem bitN_inj (n a b : Nat) (ha : a < 4294967296) (hb : b < 4294967296) (h : bitN n a = bitN n b) : a = b := by
  have h1 : bitN n (a ^^^ b) = 0 := by rw [bitN_xor, h, Nat.xor_self]
  exact xor_eq_zero (bitN_eq_zero n _ (Nat.xor_lt_two_pow (n := 32) ha hb) h1)
theorem bitN_shift (n : Nat) : ∀ y, bitN n (2 ^ n * y) = y := by
  induction n with
  | zero => intro y; simp [bitN]
  | succ n ih => intro y; simp only [bitN]; rw [Nat.pow_succ, Nat.mul_comm (2 ^ n) 2, Nat.mul_assoc, bit1_even, ih]

/-- A byte. -/
def take8 (c x : Nat) : Nat := bitN 8 (c ^^^ x)
/-- A text. -/
def upd (c : Nat) (l : List UInt8) : Nat := l.foldl (fun c x => take8 c x.toNat) c
def sumN (s : Nat) (l : List UInt8) : Nat := 4294967295 - upd (4294967295 - s) l

theorem take8_lt (c : Nat) (x : UInt8) (h : c < 4294967296) : take8 c x.toNat < 4294967296 :=
  bitN_lt 8 _ (Nat.xor_lt_two_pow (n := 32) h (by have := x.toNat_lt; omega))
theorem upd_lt (l : List UInt8) : ∀ c, c < 4294967296 → upd c l < 4294967296 := by
  induction l with
  | nil => intro c h; exact h
  | cons x r ih => intro c h; exact ih _ (take8_lt c x h)
theorem upd_append (c : Nat) (l r : List UInt8) : upd c (l ++ r) = upd (upd c l) r := by simp [upd]
theorem upd_snoc (c : Nat) (l : List UInt8) (x : UInt8) : upd c (l ++ [x]) = take8 (upd c l) x.toNat := by simp [upd]
theorem sumN_lt (s : Nat) (l : List UInt8) : sumN s l < 4294967296 := by unfold sumN; omega

theorem xor_ones (x n : Nat) (h : x < 2 ^ n) : x ^^^ (2 ^ n - 1) = 2 ^ n - 1 - x := by
  apply Nat.eq_of_testBit_eq
  intro i
  rw [Nat.testBit_xor, Nat.testBit_two_pow_sub_one, show 2 ^ n - 1 - x = 2 ^ n - (x + 1) by omega, Nat.testBit_two_pow_sub_succ h]
  by_cases hi : i < n
  · simp [hi]
  · simp [hi]; exact Nat.testBit_lt_two_pow (Nat.lt_of_lt_of_le h (Nat.pow_le_pow_right (by decide) (by omega)))

theorem not_xor (x : Nat) (h : x < 4294967296) : 4294967295 - x = x ^^^ 4294967295 := by
  have h2 : x ^^^ 4294967295 = 4294967295 - x := xor_ones x 32 h
  rw [h2]

/-- A text as one number, the lowest byte first. -/
def num : List UInt8 → Nat
  | [] => 0
  | x :: r => x.toNat ^^^ 256 * num r

theorem add_xor (n x y : Nat) (hx : x < 2 ^ n) : x ^^^ 2 ^ n * y = x + 2 ^ n * y := by
  have h1 : (x + 2 ^ n * y) = 2 ^ n * y + x := by omega
  rw [h1]
  apply Nat.eq_of_testBit_eq; intro i
  rw [Nat.testBit_xor, Nat.testBit_two_pow_mul_add _ hx, Nat.testBit_two_pow_mul]
  by_cases hi : i < n
  · have h2 : ¬ n ≤ i := by omega
    simp [hi, h2]
  · have : x.testBit i = false := Nat.testBit_lt_two_pow (Nat.lt_of_lt_of_le hx (Nat.pow_le_pow_right (by decide) (by omega)))
    have h2 : n ≤ i := by omega
    simp [hi, this, h2]

theorem num_cons (x : UInt8) (r : List UInt8) : num (x :: r) = x.toNat + 256 * num r := by
  rw [num]; exact add_xor 8 _ _ x.toNat_lt
theorem num_lt (l : List UInt8) : num l < 2 ^ (8 * l.length) := by
  induction l with
  | nil => simp [num]
  | cons x r ih =>
    rw [num_cons, List.length_cons, Nat.mul_succ, Nat.pow_add]
    have := x.toNat_lt
    omega
theorem num_inj : ∀ (l r : List UInt8), l.length = r.length → num l = num r → l = r := by
  intro l
  induction l with
  | nil => intro r h _; exact (List.eq_nil_of_length_eq_zero h.symm).symm
  | cons x t ih =>
    intro r h hn
    cases r with
    | nil => simp at h
    | cons y u =>
      rw [num_cons, num_cons] at hn
      have hx := x.toNat_lt
      have hy := y.toNat_lt
      have h1 : x = y := UInt8.toNat_inj.1 (by omega)
      rw [h1, ih u (by simpa using h) (by omega)]

theorem upd_num (l : List UInt8) : ∀ c, upd c l = bitN (8 * l.length) (c ^^^ num l) := by
  induction l with
  | nil => intro c; simp [upd, num, bitN]
  | cons x r ih =>
    intro c
    have h1 : upd c (x :: r) = upd (take8 c x.toNat) r := rfl
    rw [h1, ih, List.length_cons, show 8 * (r.length + 1) = 8 + 8 * r.length by omega, bitN_add]
    congr 1
    rw [num, ← Nat.xor_assoc, bitN_xor 8 (c ^^^ x.toNat), show 256 * num r = 2 ^ 8 * num r from rfl, bitN_shift]
    rfl

/-- Zeros alone. -/
theorem upd_xor (c d : Nat) (l : List UInt8) : upd (c ^^^ d) l = upd c l ^^^ bitN (8 * l.length) d := by
  rw [upd_num, upd_num, ← bitN_xor]; congr 1
  rw [Nat.xor_assoc, Nat.xor_comm d, ← Nat.xor_assoc]

theorem sumN_append (s : Nat) (l r : List UInt8) (h : s < 4294967296) : sumN (sumN s l) r = sumN s (l ++ r) := by
  unfold sumN
  rw [upd_append]
  congr 2
  have := upd_lt l (4294967295 - s) (by omega)
  omega

/-- The sums of two pieces make the sum of both. -/
theorem sumN_combine (l r : List UInt8) : bitN (8 * r.length) (sumN 0 l) ^^^ sumN 0 r = sumN 0 (l ++ r) := by
  have h1 := upd_lt l 4294967295 (by omega)
  have h2 := upd_lt r 4294967295 (by omega)
  have h3 := upd_lt r (upd 4294967295 l) h1
  unfold sumN
  simp only [Nat.sub_zero]
  rw [upd_append, not_xor _ h1, not_xor _ h2, not_xor _ h3, bitN_xor]
  have e : upd 4294967295 l ^^^ (upd 4294967295 l ^^^ 4294967295) = 4294967295 := by rw [← Nat.xor_assoc, Nat.xor_self, Nat.zero_xor]
  have := upd_xor (upd 4294967295 l) (upd 4294967295 l ^^^ 4294967295) r
  rw [e, bitN_xor] at this
  rw [this]
  generalize bitN (8 * r.length) (upd 4294967295 l) = x
  generalize bitN (8 * r.length) 4294967295 = y
  generalize upd (upd 4294967295 l) r = z
  rw [← Nat.xor_assoc, ← Nat.xor_assoc, Nat.xor_comm (x ^^^ y) z, Nat.xor_assoc z, Nat.xor_self, Nat.xor_zero]

/-- Four bytes, the lowest first. -/
def four (s : Nat) : List UInt8 := [UInt8.ofNat s, UInt8.ofNat (s / 256), UInt8.ofNat (s / 65536), UInt8.ofNat (s / 16777216)]
theorem num_four (s : Nat) (h : s < 4294967296) : num (four s) = s := by
  simp only [four, num_cons, UInt8.toNat_ofNat', show num [] = 0 from rfl]; omega
theorem four_inj (s t : Nat) (hs : s < 4294967296) (ht : t < 4294967296) (h : four s = four t) : s = t := by
  rw [← num_four s hs, h, num_four t ht]
theorem upd_four (r s : Nat) (hs : s < 4294967296) : upd r (four s) = bitN 32 (r ^^^ s) := by
  rw [upd_num, num_four s hs]; rfl

/-- A text whose last four bytes are its sum: so is its register. -/
theorem closed_iff (b t : List UInt8) (ht : t.length = 4) : (four (sumN 0 b) = t) ↔ upd 4294967295 (b ++ t) = bitN 32 4294967295 := by
  have h1 := upd_lt b 4294967295 (by omega)
  have hn := num_lt t
  rw [ht] at hn
  rw [upd_append, upd_num t, ht]
  have hs : sumN 0 b = upd 4294967295 b ^^^ 4294967295 := by unfold sumN; simp only [Nat.sub_zero]; exact not_xor _ h1
  constructor
  · intro h
    rw [← h, num_four _ (sumN_lt _ _), hs, ← Nat.xor_assoc, Nat.xor_self, Nat.zero_xor]
  · intro h
    have h2 := bitN_inj 32 _ _ (Nat.xor_lt_two_pow (n := 32) h1 hn) (by omega) h
    apply num_inj
    · rw [ht]; rfl
    · rw [num_four _ (sumN_lt _ _), hs]
      generalize upd 4294967295 b = x at *
      rw [← h2, ← Nat.xor_assoc, Nat.xor_self, Nat.zero_xor]

/-- ONE RUN OF UP TO 32 TURNED BITS IS TOLD: the register is as it was only where no bit is turned. -/
theorem burst (w t : List UInt8) (hl : t.length = w.length) (at' p : Nat) (hat : at' ≤ 8 * w.length) (hp : p < 4294967296) (h : num t = num w ^^^ 2 ^ at' * p) :
    upd 4294967295 t = upd 4294967295 w ↔ t = w := by
  constructor
  · intro hu
    have h1 : upd 4294967295 t = upd 4294967295 w ^^^ bitN (8 * w.length) (2 ^ at' * p) := by
      rw [upd_num, upd_num, hl, h, ← bitN_xor, Nat.xor_assoc]
    rw [hu] at h1
    have h2 : bitN (8 * w.length) (2 ^ at' * p) = 0 := by
      have := congrArg (fun x => upd 4294967295 w ^^^ x) h1
      simp only [← Nat.xor_assoc, Nat.xor_self, Nat.zero_xor] at this
      exact this.symm
    rw [show 8 * w.length = at' + (8 * w.length - at') by omega, bitN_add, bitN_shift] at h2
    have h3 := bitN_eq_zero _ _ hp h2
    subst h3
    exact num_inj _ _ hl (by rw [h]; simp)
  · rintro rfl; rfl

/-- The table of nibbles. -/
def tab : List Nat := [0, 498536548, 997073096, 651767980, 1994146192, 1802195444, 1303535960, 1342533948, 3988292384, 4027552580, 3604390888, 3412177804, 2607071920, 2262029012, 2685067896, 3183342108]
theorem tab_bit : ∀ i : Fin 16, tab.getD i.val 0 = bitN 4 i.val := by decide +kernel
theorem tab_lt : ∀ i : Fin 16, tab.getD i.val 0 < 4294967296 := by decide +kernel
theorem nib (c : Nat) : c / 16 ^^^ tab.getD (c % 16) 0 = bitN 4 c := by
  have h := tab_bit ⟨c % 16, Nat.mod_lt _ (by decide)⟩
  simp only at h
  rw [h]
  have e : c = c % 16 ^^^ 2 ^ 4 * (c / 16) := by rw [add_xor 4 _ _ (by omega)]; omega
  conv => rhs; rw [e, bitN_xor, bitN_shift]
  rw [Nat.xor_comm]
theorem nib_and (c : Nat) (h : c < 4294967296) : bits .and .u32 (c : Int) 15 = ((c % 16 : Nat) : Int) := by
  have := u32_and_nat c 15 h (by decide)
  rw [nat_mask4] at this; exact this
theorem nib_xor (c : Nat) (h : c < 4294967296) : bits .xor .u32 ((c : Int) / 16) ((tab.getD (c % 16) 0 : Nat) : Int) = ((bitN 4 c : Nat) : Int) := by
  have := u32_xor_nat (c / 16) (tab.getD (c % 16) 0) (by omega) (tab_lt ⟨c % 16, Nat.mod_lt _ (by decide)⟩)
  rw [nib] at this
  rw [← this]; rfl
theorem nib2 (c : Nat) : bitN 4 (bitN 4 c) = bitN 8 c := (bitN_add 4 4 c).symm

/-- The reference's way: out := c % 2; c = c / 2; if out == 1 then c ^ the polynomial. -/
theorem ref_bit (c : Nat) (h : c < 4294967296) : (c % 2 = 1 → bits .xor .u32 ((c : Int) / 2) 3988292384 = ((bit1 c : Nat) : Int)) ∧ (c % 2 ≠ 1 → (c : Int) / 2 = ((bit1 c : Nat) : Int)) := by
  unfold bit1
  constructor
  · intro h1
    rw [if_pos h1]
    have := u32_xor_nat (c / 2) 3988292384 (by omega) (by decide)
    rw [← this]; rfl
  · intro h1
    rw [if_neg h1, Nat.xor_zero]; rfl

end Go.Proofs.YtffhejaeliphcaaDoor

namespace Go.Proofs.YtffhejaeliphcaaDoor
open Go.RowKit
set_option linter.unusedVariables false

/-- One bit turned, if the pattern says so and it lies within. -/
def turn1 (l : List UInt8) (t p k : Nat) : List UInt8 :=
  if p / 2 ^ k % 2 = 1 ∧ (t + k) / 8 < l.length then l.set ((t + k) / 8) (UInt8.ofNat ((l.getD ((t + k) / 8) 0).toNat ^^^ 2 ^ ((t + k) % 8))) else l
def turn (l : List UInt8) (t p : Nat) : Nat → List UInt8
  | 0 => l
  | k + 1 => turn1 (turn l t p k) t p k

theorem turn1_length (l : List UInt8) (t p k : Nat) : (turn1 l t p k).length = l.length := by unfold turn1; split <;> simp
theorem turn_length (l : List UInt8) (t p k : Nat) : (turn l t p k).length = l.length := by
  induction k with
  | zero => rfl
  | succ k ih => rw [turn, turn1_length, ih]

theorem mul_xor (n a b : Nat) : 2 ^ n * (a ^^^ b) = 2 ^ n * a ^^^ 2 ^ n * b := by
  apply Nat.eq_of_testBit_eq; intro i
  simp only [Nat.testBit_xor, Nat.testBit_two_pow_mul]
  by_cases h : n ≤ i <;> simp [h]

theorem num_set : ∀ (l : List UInt8) (j d : Nat), j < l.length → d < 256 → num (l.set j (UInt8.ofNat ((l.getD j 0).toNat ^^^ d))) = num l ^^^ 2 ^ (8 * j) * d
  | [], j, d, h, _ => by simp at h
  | x :: r, 0, d, _, hd => by
    have h1 : (UInt8.ofNat (x.toNat ^^^ d)).toNat = x.toNat ^^^ d := by
      simp only [UInt8.toNat_ofNat']; exact Nat.mod_eq_of_lt (Nat.xor_lt_two_pow (n := 8) x.toNat_lt hd)
    simp only [List.set_cons_zero, num, List.getD_cons_zero, h1, Nat.mul_zero, Nat.pow_zero, Nat.one_mul]
    rw [Nat.xor_assoc, Nat.xor_assoc, Nat.xor_comm d]
  | x :: r, j + 1, d, h, hd => by
    simp only [List.set_cons_succ, num, List.getD_cons_succ]
    rw [num_set r j d (by simpa using h) hd, Nat.mul_succ, Nat.pow_add]
    have e : 256 * (num r ^^^ 2 ^ (8 * j) * d) = 256 * num r ^^^ 256 * (2 ^ (8 * j) * d) := by
      exact mul_xor 8 _ _
    rw [e, Nat.xor_assoc]
    congr 2
    rw [show (2 : Nat) ^ 8 = 256 from rfl, Nat.mul_comm (2 ^ (8 * j)) 256, Nat.mul_assoc]

/-- Behind k rounds: the pattern's first k bits are laid over the text, from bit number t on, as far as it goes. -/
theorem turn_num (l : List UInt8) (t p k : Nat) : num (turn l t p k) = num l ^^^ (2 ^ t * (p % 2 ^ k)) % 2 ^ (8 * l.length) := by
  induction k with
  | zero => simp [turn, Nat.mod_one]
  | succ k ih =>
    have hp : p % 2 ^ (k + 1) = p % 2 ^ k ^^^ 2 ^ k * (p / 2 ^ k % 2) := by
      rw [add_xor k _ _ (Nat.mod_lt _ (Nat.two_pow_pos k)), Nat.pow_succ, Nat.mod_mul]
    rw [hp, mul_xor, Nat.xor_mod_two_pow, ← Nat.xor_assoc, ← ih, turn]
    unfold turn1
    rw [turn_length]
    by_cases h1 : p / 2 ^ k % 2 = 1
    · rw [h1, Nat.mul_one, ← Nat.pow_add]
      by_cases h2 : (t + k) / 8 < l.length
      · rw [if_pos ⟨rfl, h2⟩, num_set _ _ _ (by rw [turn_length]; exact h2) (Nat.pow_lt_pow_right (by decide) (show (t + k) % 8 < 8 by omega))]
        congr 1
        rw [← Nat.pow_add, show 8 * ((t + k) / 8) + (t + k) % 8 = t + k by omega, Nat.mod_eq_of_lt (Nat.pow_lt_pow_right (by decide) (by omega))]
      · rw [if_neg (fun h => h2 h.2)]
        have : 2 ^ (t + k) % 2 ^ (8 * l.length) = 0 := by
          obtain ⟨d, hd⟩ : ∃ d, t + k = 8 * l.length + d := ⟨t + k - 8 * l.length, by omega⟩
          rw [hd, Nat.pow_add, Nat.mul_mod_right]
        rw [this, Nat.xor_zero]
    · rw [if_neg (fun h => h1 h.1), show p / 2 ^ k % 2 = 0 by omega, Nat.mul_zero, Nat.mul_zero, Nat.zero_mod, Nat.xor_zero]

/-- ONE RUN OF UP TO 32 TURNED BITS: the register tells it. -/
theorem turn_told (l : List UInt8) (t p : Nat) (ht : t ≤ 8 * l.length) (hp : p < 4294967296) : upd 4294967295 (turn l t p 32) = upd 4294967295 l ↔ turn l t p 32 = l := by
  have h := turn_num l t p 32
  rw [Nat.mod_eq_of_lt (show p < 2 ^ 32 from hp)] at h
  have h2 : (2 ^ t * p) % 2 ^ (8 * l.length) = 2 ^ t * (p % 2 ^ (8 * l.length - t)) := by
    conv => lhs; rw [show 8 * l.length = t + (8 * l.length - t) by omega, Nat.pow_add]
    rw [Nat.mul_mod_mul_left]
  rw [h2] at h
  exact burst l (turn l t p 32) (turn_length l t p 32) t _ ht (Nat.lt_of_le_of_lt (Nat.mod_le _ _) hp) h

end Go.Proofs.YtffhejaeliphcaaDoor
