/-
  Plain facts on frames: what is laid, what is read of it, there and back, one form alone, one run of turned bits. No condition.
  Plain fact: a frame in which one run of at most 32 bits is turned is never read. No condition.
-/
import Derived.Test.YtffhejaeliphcaaDoorMCq
import Derived.Test.YtffhejaeliphcaaDoorMCc
namespace Go.Proofs.YtffhejaeliphcaaDoor
open Go.RowKit
set_option linter.unusedVariables false

/-- k bytes of a number, the lowest first. -/
def lowBytes : Nat → Nat → List UInt8
  | 0, _ => []
  | k + 1, s => UInt8.ofNat s :: lowBytes k (s / 256)
theorem lowBytes_len : ∀ k s, (lowBytes k s).length = k
  | 0, _ => rfl
  | k + 1, s => by simp [lowBytes, lowBytes_len k]
theorem num_low : ∀ k s, num (lowBytes k s) = s % 256 ^ k
  | 0, s => by simp [lowBytes, num, Nat.mod_one]
  | k + 1, s => by
    have h : s % 256 ^ (k + 1) = s % 256 + 256 * (s / 256 % 256 ^ k) := by rw [Nat.pow_succ 256 k, Nat.mul_comm (256 ^ k) 256, Nat.mod_mul]
    rw [lowBytes, num_cons, num_low k, UInt8.toNat_ofNat', h]
theorem low_num : ∀ (l : List UInt8), lowBytes l.length (num l) = l
  | [] => rfl
  | x :: r => by
    have hx := x.toNat_lt
    rw [List.length_cons, lowBytes, num_cons, show (x.toNat + 256 * num r) / 256 = num r by omega, low_num r]
    congr 1
    apply UInt8.toNat_inj.1
    rw [UInt8.toNat_ofNat']; omega

/-- The first twelve bytes; the first sixteen. -/
def head12 (kind n seq : Nat) : List UInt8 := 165 :: UInt8.ofNat kind :: UInt8.ofNat n :: UInt8.ofNat (n / 256) :: lowBytes 8 seq
def headF (kind n seq : Nat) : List UInt8 := head12 kind n seq ++ four (sumN 0 (head12 kind n seq))
theorem head12_len (kind n seq : Nat) : (head12 kind n seq).length = 12 := by simp [head12, lowBytes_len]
theorem headF_len (kind n seq : Nat) : (headF kind n seq).length = 16 := by simp [headF, head12_len, four]

/-- A whole frame. -/
def frameF (kind seq : Nat) (body : List UInt8) : List UInt8 := headF kind body.length seq ++ (body ++ four (sumN 0 body))
theorem frameF_len (kind seq : Nat) (body : List UInt8) : (frameF kind seq body).length = body.length + 20 := by simp [frameF, headF_len, four]; omega

/-- What is laid, and the error. -/
def encF (kind seq : Int) (body : List UInt8) : List UInt8 × Nat :=
  if kind < 1 ∨ 7 < kind ∨ seq < 0 ∨ 1099511627776 < seq then ([], 63)
  else if 16384 < body.length then ([], 24)
  else (frameF kind.toNat seq.toNat body, 0)

/-- Kind, number, length of the body as the head says them. -/
def kindOf (l : List UInt8) : Nat := (l.getD 1 0).toNat
def lenOf (l : List UInt8) : Nat := (l.getD 2 0).toNat + 256 * (l.getD 3 0).toNat
def seqOf (l : List UInt8) : Nat := num ((l.drop 4).take 8)

/-- What is read of a head: kind, number, size, error. -/
def peekF (l : List UInt8) : Nat × Nat × Nat × Nat :=
  if l.length < 16 then (0, 0, 0, 60)
  else if l.getD 0 0 ≠ 165 then (0, 0, 0, 61)
  else if closedB (l.take 16) = false then (0, 0, 0, 62)
  else if kindOf l = 0 ∨ 7 < kindOf l ∨ 16384 < lenOf l ∨ 1099511627776 < seqOf l then (0, 0, 0, 63)
  else (kindOf l, seqOf l, 20 + lenOf l, 0)

/-- What is read of a frame. -/
structure Fr where
  kind : Nat
  seq : Nat
  body : List UInt8
deriving DecidableEq
def Fr.none : Fr := ⟨0, 0, []⟩

def decF (l : List UInt8) : Fr × Nat × Nat :=
  if (peekF l).2.2.2 ≠ 0 then (Fr.none, 0, (peekF l).2.2.2)
  else if l.length < (peekF l).2.2.1 then (Fr.none, 0, 60)
  else if closedB ((l.take (peekF l).2.2.1).drop 16) = false then (Fr.none, 0, 62)
  else (⟨(peekF l).1, (peekF l).2.1, (l.take ((peekF l).2.2.1 - 4)).drop 16⟩, (peekF l).2.2.1, 0)

theorem peekF_bd (l : List UInt8) : (peekF l).1 ≤ 7 ∧ (peekF l).2.1 ≤ 1099511627776 ∧ (peekF l).2.2.1 ≤ 16404 ∧ (peekF l).2.2.2 ≤ 63 ∧ ((peekF l).2.2.2 = 0 → 20 ≤ (peekF l).2.2.1 ∧ 1 ≤ (peekF l).1 ∧ (peekF l).2.2.1 = 20 + lenOf l ∧ 16 ≤ l.length) := by
  unfold peekF
  split
  · simp
  · split
    · simp
    · split
      · simp
      · split
        · simp
        · exact ⟨by show kindOf l ≤ 7; omega, by show seqOf l ≤ _; omega, by show 20 + lenOf l ≤ _; omega, by show 0 ≤ 63; omega, fun _ => ⟨by show 20 ≤ 20 + lenOf l; omega, by show 1 ≤ kindOf l; omega, rfl, by omega⟩⟩

/-- The first sixteen bytes tell all. -/
theorem getD_app (l r : List UInt8) (j : Nat) (h : j < l.length) : (l ++ r).getD j 0 = l.getD j 0 := by
  rw [List.getD_eq_getElem?_getD, List.getD_eq_getElem?_getD, List.getElem?_append_left h]

theorem take_app16 {h r : List UInt8} (hl : h.length = 16) : (h ++ r).take 16 = h := by rw [← hl]; exact List.take_left
theorem drop_app16 {h r : List UInt8} (hl : h.length = 16) : (h ++ r).drop 16 = r := by rw [← hl]; exact List.drop_left

theorem peekF_head {h r : List UInt8} (hl : h.length = 16) : peekF (h ++ r) = peekF h := by
  unfold peekF kindOf lenOf seqOf
  have e : ((h ++ r).drop 4).take 8 = (h.drop 4).take 8 := by
    rw [List.drop_append_of_le_length (by omega), List.take_append_of_le_length (by simp; omega)]
  rw [getD_app h r 0 (by omega), getD_app h r 1 (by omega), getD_app h r 2 (by omega), getD_app h r 3 (by omega), e, take_app16 hl, List.take_of_length_le (by omega : h.length ≤ 16)]
  have e1 : ¬ (h ++ r).length < 16 := by simp; omega
  have e2 : ¬ h.length < 16 := by omega
  rw [if_neg e1, if_neg e2]

theorem peekF_laid {kind n seq : Nat} (h1 : 1 ≤ kind) (h2 : kind ≤ 7) (h3 : n ≤ 16384) (h4 : seq ≤ 1099511627776) (r : List UInt8) : peekF (headF kind n seq ++ r) = (kind, seq, 20 + n, 0) := by
  rw [peekF_head (headF_len _ _ _)]
  have ek : kindOf (headF kind n seq) = kind := by show (UInt8.ofNat kind).toNat = kind; rw [UInt8.toNat_ofNat']; omega
  have en : lenOf (headF kind n seq) = n := by show (UInt8.ofNat n).toNat + 256 * (UInt8.ofNat (n / 256)).toNat = n; rw [UInt8.toNat_ofNat', UInt8.toNat_ofNat']; omega
  have es : seqOf (headF kind n seq) = seq := by
    have : ((headF kind n seq).drop 4).take 8 = lowBytes 8 seq := by
      show ((lowBytes 8 seq) ++ _).take 8 = _
      rw [List.take_append_of_le_length (by rw [lowBytes_len]; exact Nat.le_refl _), List.take_of_length_le (by rw [lowBytes_len]; exact Nat.le_refl _)]
    unfold seqOf
    rw [this, num_low]
    omega
  have ec : closedB ((headF kind n seq).take 16) = true := by
    rw [List.take_of_length_le (by rw [headF_len]; exact Nat.le_refl _)]
    exact closedB_whole _
  have e0 : (headF kind n seq).getD 0 0 = 165 := rfl
  unfold peekF
  rw [headF_len, ek, en, es, ec, e0]
  rw [if_neg (by omega), if_neg (by simp), if_neg (by simp), if_neg (by omega)]

/-- There and back, whatever stands behind. -/
theorem decF_laid {kind seq : Nat} {body : List UInt8} (h1 : 1 ≤ kind) (h2 : kind ≤ 7) (h3 : body.length ≤ 16384) (h4 : seq ≤ 1099511627776) (r : List UInt8) :
    decF (frameF kind seq body ++ r) = (⟨kind, seq, body⟩, 20 + body.length, 0) := by
  have hp : peekF (frameF kind seq body ++ r) = (kind, seq, 20 + body.length, 0) := by
    unfold frameF; rw [List.append_assoc]; exact peekF_laid h1 h2 h3 h4 _
  have hl := frameF_len kind seq body
  have ht : (frameF kind seq body ++ r).take (20 + body.length) = frameF kind seq body := by
    rw [List.take_append_of_le_length (by omega), List.take_of_length_le (by omega)]
  have ht2 : (frameF kind seq body ++ r).take (20 + body.length - 4) = headF kind body.length seq ++ body := by
    rw [List.take_append_of_le_length (by omega)]
    unfold frameF
    rw [← List.append_assoc, List.take_append_of_le_length (by simp [headF_len]; omega), List.take_of_length_le (by simp [headF_len]; omega)]
  unfold decF
  rw [hp]
  simp only
  rw [ht, ht2, if_neg (by simp), if_neg (by simp; omega), drop_app16 (headF_len _ _ _)]
  unfold frameF
  rw [drop_app16 (headF_len _ _ _), closedB_whole, if_neg (by simp)]

/-- A shorter beginning is torn. -/
theorem decF_torn {kind seq : Nat} {body : List UInt8} (h1 : 1 ≤ kind) (h2 : kind ≤ 7) (h3 : body.length ≤ 16384) (h4 : seq ≤ 1099511627776) (k : Nat) (hk : k < 20 + body.length) :
    decF ((frameF kind seq body).take k) = (Fr.none, 0, 60) := by
  have hl := frameF_len kind seq body
  by_cases h16 : k < 16
  · have hp : peekF ((frameF kind seq body).take k) = (0, 0, 0, 60) := by
      unfold peekF; rw [if_pos (by rw [List.length_take]; omega)]
    unfold decF; rw [hp]; simp
  · have e : (frameF kind seq body).take k = headF kind body.length seq ++ (body ++ four (sumN 0 body)).take (k - 16) := by
      unfold frameF
      rw [List.take_append, headF_len, List.take_of_length_le (by rw [headF_len]; omega)]
    have hp : peekF ((frameF kind seq body).take k) = (kind, seq, 20 + body.length, 0) := by rw [e]; exact peekF_laid h1 h2 h3 h4 _
    unfold decF
    rw [hp]
    simp only
    rw [if_neg (by simp), if_pos (by rw [List.length_take]; omega)]

theorem closed_four {l : List UInt8} (h : closedB l = true) : 4 ≤ l.length ∧ l = l.take (l.length - 4) ++ four (sumN 0 (l.take (l.length - 4))) := by
  unfold closedB at h
  simp only [Bool.and_eq_true, decide_eq_true_eq, beq_iff_eq] at h
  exact ⟨h.1, by rw [h.2, List.take_append_drop]⟩

/-- What is read of a head is what would be laid. -/
theorem peekF_one {l : List UInt8} {kind seq size : Nat} (h : peekF l = (kind, seq, size, 0)) :
    1 ≤ kind ∧ kind ≤ 7 ∧ seq ≤ 1099511627776 ∧ 20 ≤ size ∧ size ≤ 16404 ∧ 16 ≤ l.length ∧ l.take 16 = headF kind (size - 20) seq := by
  unfold peekF at h
  by_cases c1 : l.length < 16
  · rw [if_pos c1] at h; simp at h
  rw [if_neg c1] at h
  by_cases c2 : l.getD 0 0 ≠ 165
  · rw [if_pos c2] at h; simp at h
  rw [if_neg c2] at h
  by_cases c3 : closedB (l.take 16) = false
  · rw [if_pos c3] at h; simp at h
  rw [if_neg c3] at h
  by_cases c4 : kindOf l = 0 ∨ 7 < kindOf l ∨ 16384 < lenOf l ∨ 1099511627776 < seqOf l
  · rw [if_pos c4] at h; simp at h
  rw [if_neg c4] at h
  simp only [Prod.mk.injEq, and_true] at h
  obtain ⟨hk, hs, hz⟩ := h
  refine ⟨by omega, by omega, by omega, by omega, by omega, by omega, ?_⟩
  have hc : closedB (l.take 16) = true := by simpa using c3
  obtain ⟨_, hf⟩ := closed_four hc
  have e16 : (l.take 16).length = 16 := by rw [List.length_take]; omega
  rw [e16] at hf
  have e12 : (l.take 16).take (16 - 4) = l.take 12 := by rw [List.take_take]; rfl
  rw [e12] at hf
  have h12 : l.take 12 = head12 kind (size - 20) seq := by
    match l, c1 with
    | x0 :: x1 :: x2 :: x3 :: r, c1 =>
      simp only [List.length_cons] at c1
      have a0 : x0 = 165 := by simpa using c2
      have a1 : x1 = UInt8.ofNat kind := by rw [← hk]; simp [kindOf]
      have hn : size - 20 = x2.toNat + 256 * x3.toNat := by have : lenOf (x0 :: x1 :: x2 :: x3 :: r) = x2.toNat + 256 * x3.toNat := rfl; omega
      have b2 := x2.toNat_lt
      have b3 := x3.toNat_lt
      have a2 : x2 = UInt8.ofNat (size - 20) := by apply UInt8.toNat_inj.1; rw [UInt8.toNat_ofNat']; omega
      have a3 : x3 = UInt8.ofNat ((size - 20) / 256) := by apply UInt8.toNat_inj.1; rw [UInt8.toNat_ofNat']; omega
      have a4 : lowBytes 8 seq = r.take 8 := by
        have e8 : (r.take 8).length = 8 := by rw [List.length_take]; omega
        have := low_num (r.take 8)
        rw [e8] at this
        rw [← this, ← hs]; rfl
      unfold head12
      rw [a4, ← a1, ← a2, ← a3, ← a0]
      rfl
  rw [hf, h12]
  rfl

/-- What is read of a frame is what would be laid. -/
theorem decF_one {l : List UInt8} {f : Fr} {n : Nat} (h : decF l = (f, n, 0)) :
    1 ≤ f.kind ∧ f.kind ≤ 7 ∧ f.seq ≤ 1099511627776 ∧ f.body.length ≤ 16384 ∧ n = 20 + f.body.length ∧ n ≤ l.length ∧ l.take n = frameF f.kind f.seq f.body ∧ peekF l = (f.kind, f.seq, n, 0) := by
  obtain ⟨y, hy⟩ : ∃ y, peekF l = y := ⟨_, rfl⟩
  obtain ⟨kind, seq, size, e⟩ := y
  unfold decF at h
  rw [hy] at h
  simp only at h
  by_cases he : e = 0
  · subst he
    rw [if_neg (by simp)] at h
    obtain ⟨p1, p2, p3, p4, p5, p6, p7⟩ := peekF_one hy
    by_cases c1 : l.length < size
    · rw [if_pos c1] at h; simp at h
    rw [if_neg c1] at h
    by_cases c2 : closedB ((l.take size).drop 16) = false
    · rw [if_pos c2] at h; simp at h
    rw [if_neg c2] at h
    simp only [Prod.mk.injEq, and_true] at h
    obtain ⟨rfl, rfl⟩ := h
    have hc : closedB ((l.take size).drop 16) = true := by simpa using c2
    obtain ⟨_, hf⟩ := closed_four hc
    have e1 : ((l.take size).drop 16).length = size - 16 := by rw [List.length_drop, List.length_take]; omega
    rw [e1] at hf
    have e2 : ((l.take size).drop 16).take (size - 16 - 4) = (l.take (size - 4)).drop 16 := by
      rw [List.take_drop, List.take_take]; congr 2; omega
    rw [e2] at hf
    have e3 : ((l.take (size - 4)).drop 16).length = size - 20 := by rw [List.length_drop, List.length_take]; omega
    simp only
    refine ⟨p1, p2, p3, by omega, by omega, by omega, ?_, hy⟩
    unfold frameF
    rw [e3, ← p7, ← hf]
    have := List.take_append_drop 16 (l.take size)
    rw [List.take_take, Nat.min_eq_left (by omega)] at this
    exact this.symm
  · rw [if_pos he] at h
    injection h with _ h
    injection h with _ h
    exact absurd h he

theorem decF_err {l : List UInt8} (h : (decF l).2.2 ≠ 0) : (decF l).1 = Fr.none ∧ (decF l).2.1 = 0 := by
  unfold decF at h ⊢
  split
  · exact ⟨rfl, rfl⟩
  · rw [if_neg (by assumption)] at h
    split
    · exact ⟨rfl, rfl⟩
    · rw [if_neg (by assumption)] at h
      split
      · exact ⟨rfl, rfl⟩
      · rw [if_neg (by assumption)] at h; exact absurd rfl h
end Go.Proofs.YtffhejaeliphcaaDoor

namespace Go.Proofs.YtffhejaeliphcaaDoor
open Go.RowKit
set_option linter.unusedVariables false

theorem num_split (x y : List UInt8) : num (x ++ y) = num x + 2 ^ (8 * x.length) * num y := by
  induction x with
  | nil => simp [num]
  | cons c r ih =>
    rw [List.cons_append, num_cons, num_cons, ih, List.length_cons, Nat.mul_add 8, Nat.pow_add]
    rw [Nat.mul_add, ← Nat.mul_assoc, Nat.mul_comm (2 ^ (8 * r.length)) (2 ^ (8 * 1))]
    rw [show (2 : Nat) ^ (8 * 1) = 256 by decide]
    omega

theorem xor_div_pow (a b n : Nat) : (a ^^^ b) / 2 ^ n = a / 2 ^ n ^^^ b / 2 ^ n := by
  apply Nat.eq_of_testBit_eq; intro i
  simp [Nat.testBit_xor, Nat.testBit_div_two_pow]

theorem num_take (l : List UInt8) (k : Nat) (h : k ≤ l.length) : num (l.take k) = num l % 2 ^ (8 * k) ∧ num (l.drop k) = num l / 2 ^ (8 * k) := by
  have h1 := num_split (l.take k) (l.drop k)
  have h2 : (l.take k).length = k := by rw [List.length_take]; omega
  have h3 := num_lt (l.take k)
  rw [List.take_append_drop, h2] at h1
  rw [h2] at h3
  rw [h1]
  exact ⟨by rw [Nat.add_mul_mod_self_left, Nat.mod_eq_of_lt h3], by rw [Nat.add_mul_div_left _ _ (Nat.two_pow_pos _), Nat.div_eq_of_lt h3, Nat.zero_add]⟩

/-- The part of a run of turned bits that falls behind k bytes, and the one that falls into them. -/
theorem turned_parts (l m : List UInt8) (t p k : Nat) (hl : m.length = l.length) (hk : k ≤ l.length) (hp : p < 4294967296) (ht : t ≤ 8 * l.length) (h : num m = num l ^^^ 2 ^ t * p) :
    (∃ q, q < 4294967296 ∧ num (m.take k) = num (l.take k) ^^^ 2 ^ (min t (8 * k)) * q) ∧
    (∃ s q, q < 4294967296 ∧ s ≤ 8 * (l.length - k) ∧ num (m.drop k) = num (l.drop k) ^^^ 2 ^ s * q) := by
  obtain ⟨a1, a2⟩ := num_take l k hk
  obtain ⟨b1, b2⟩ := num_take m k (by omega)
  rw [a1, a2, b1, b2, h, Nat.xor_mod_two_pow, xor_div_pow]
  by_cases hc : t < 8 * k
  · refine ⟨⟨p % 2 ^ (8 * k - t), Nat.lt_of_le_of_lt (Nat.mod_le _ _) hp, ?_⟩, ⟨0, p / 2 ^ (8 * k - t), Nat.lt_of_le_of_lt (Nat.div_le_self _ _) hp, by omega, ?_⟩⟩
    · rw [Nat.min_eq_left (by omega)]
      congr 1
      conv => lhs; rw [show 8 * k = t + (8 * k - t) by omega, Nat.pow_add]
      rw [Nat.mul_mod_mul_left]
    · congr 1
      rw [Nat.pow_zero, Nat.one_mul]
      conv => lhs; rw [show 8 * k = t + (8 * k - t) by omega, Nat.pow_add]
      rw [Nat.mul_div_mul_left _ _ (Nat.two_pow_pos _)]
  · refine ⟨⟨0, by decide, ?_⟩, ⟨t - 8 * k, p, hp, by omega, ?_⟩⟩
    · congr 1
      rw [Nat.mul_zero, show t = 8 * k + (t - 8 * k) by omega, Nat.pow_add, Nat.mul_assoc, Nat.mul_mod_right]
    · congr 1
      conv => lhs; rw [show t = 8 * k + (t - 8 * k) by omega, Nat.pow_add, Nat.mul_assoc]
      rw [Nat.mul_div_cancel_left _ (Nat.two_pow_pos _)]

theorem closed_told {w m : List UInt8} {t p : Nat} (hl : m.length = w.length) (h4 : 4 ≤ w.length) (ht : t ≤ 8 * w.length) (hp : p < 4294967296) (h : num m = num w ^^^ 2 ^ t * p) (hc : closedB w = true) (hne : m ≠ w) : closedB m = false := by
  have hb := burst w m hl t p ht hp h
  cases hm : closedB m with
  | false => rfl
  | true =>
    rw [closedB_iff _ (by omega)] at hm
    rw [closedB_iff _ h4] at hc
    exact absurd (hb.1 (hm.trans hc.symm)) hne

/-- A frame in which one run of up to 32 bits is turned is never read. -/
theorem decF_turned {kind seq : Nat} {body : List UInt8} (h1 : 1 ≤ kind) (h2 : kind ≤ 7) (h3 : body.length ≤ 16384) (h4 : seq ≤ 1099511627776) (m r : List UInt8) (t p : Nat) (hp : p < 4294967296)
    (hl : m.length = (frameF kind seq body).length) (ht : t ≤ 8 * (frameF kind seq body).length) (h : num m = num (frameF kind seq body) ^^^ 2 ^ t * p) (hne : m ≠ frameF kind seq body) :
    decF (m ++ r) = (Fr.none, 0, 61) ∨ decF (m ++ r) = (Fr.none, 0, 62) := by
  have hN := frameF_len kind seq body
  obtain ⟨⟨q, hq, e1⟩, ⟨s, q', hq', hs, e2⟩⟩ := turned_parts (frameF kind seq body) m t p 16 hl (by omega) hp ht h
  have t16 : (frameF kind seq body).take 16 = headF kind body.length seq := by unfold frameF; exact take_app16 (headF_len _ _ _)
  have d16 : (frameF kind seq body).drop 16 = body ++ four (sumN 0 body) := by unfold frameF; exact drop_app16 (headF_len _ _ _)
  rw [t16] at e1
  rw [d16] at e2
  have hml : (m.take 16).length = 16 := by rw [List.length_take]; omega
  have hmd : (m.drop 16).length = body.length + 4 := by rw [List.length_drop]; omega
  have hsp : m ++ r = m.take 16 ++ (m.drop 16 ++ r) := by rw [← List.append_assoc, List.take_append_drop]
  by_cases hh : m.take 16 = headF kind body.length seq
  · right
    have hr : m.drop 16 ≠ body ++ four (sumN 0 body) := by
      intro hr
      apply hne
      rw [← List.take_append_drop 16 m, hh, hr]; rfl
    have hc := closed_told (w := body ++ four (sumN 0 body)) (m := m.drop 16) (by rw [hmd]; simp [four]) (by simp [four]) (by simp [four]; omega) hq' e2 (closedB_whole _) hr
    have hpk : peekF (m ++ r) = (kind, seq, 20 + body.length, 0) := by rw [hsp, hh]; exact peekF_laid h1 h2 h3 h4 _
    unfold decF
    rw [hpk]
    simp only
    have e3 : ((m ++ r).take (20 + body.length)).drop 16 = m.drop 16 := by
      rw [List.take_append_of_le_length (by omega), List.take_of_length_le (by omega)]
    rw [if_neg (by simp), if_neg (by simp; omega), e3, hc, if_pos rfl]
  · have hcl : closedB (m.take 16) = false := closed_told (w := headF kind body.length seq) (by rw [hml, headF_len]) (by rw [headF_len]; decide) (by rw [headF_len]; omega) hq e1 (closedB_whole _) hh
    have e0 : (m ++ r).take 16 = m.take 16 := by rw [List.take_append_of_le_length (by omega)]
    by_cases h0 : (m ++ r).getD 0 0 ≠ 165
    · left
      have hpk : peekF (m ++ r) = (0, 0, 0, 61) := by unfold peekF; rw [if_neg (by simp; omega), if_pos h0]
      unfold decF; rw [hpk]; rfl
    · right
      have hpk : peekF (m ++ r) = (0, 0, 0, 62) := by unfold peekF; rw [if_neg (by simp; omega), if_neg h0, e0, hcl, if_pos rfl]
      unfold decF; rw [hpk]; rfl

theorem turn_is (l : List UInt8) (t p : Nat) (ht : t ≤ 8 * l.length) (hp : p < 4294967296) : ∃ q, q < 4294967296 ∧ num (turn l t p 32) = num l ^^^ 2 ^ t * q := by
  have h := turn_num l t p 32
  rw [Nat.mod_eq_of_lt (show p < 2 ^ 32 from hp)] at h
  have h2 : (2 ^ t * p) % 2 ^ (8 * l.length) = 2 ^ t * (p % 2 ^ (8 * l.length - t)) := by
    conv => lhs; rw [show 8 * l.length = t + (8 * l.length - t) by omega, Nat.pow_add]
    rw [Nat.mul_mod_mul_left]
  rw [h2] at h
  exact ⟨_, Nat.lt_of_le_of_lt (Nat.mod_le _ _) hp, h⟩
end Go.Proofs.YtffhejaeliphcaaDoor
