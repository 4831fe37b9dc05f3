/-
  Plain facts on the frame with which a segment begins: what is laid, what is read of it by either side, that both read alike. No condition.
-/
import Derived.Test.YtffhejaeliphcaaDoorMFb
import Derived.Test.YtffhejaeliphcaaDoorMVb
namespace Go.Proofs.YtffhejaeliphcaaDoor
open Go.RowKit
set_option linter.unusedVariables false

/-- Two numbers, one behind the other. -/
def twoN (a b : Nat) : List UInt8 := enc a ++ enc b
/-- A segment may have that number and first event. -/
def rightB (num first : Int) : Bool := decide (1 ≤ num) && decide (num ≤ 999999) && decide (1 ≤ first) && decide (first ≤ 1099511627777)
theorem rightB_iff (num first : Int) : rightB num first = true ↔ 1 ≤ num ∧ num ≤ 999999 ∧ 1 ≤ first ∧ first ≤ 1099511627777 := by
  unfold rightB; simp [and_assoc]
theorem rightB_no {num first : Int} (h : ¬ (1 ≤ num ∧ num ≤ 999999 ∧ 1 ≤ first ∧ first ≤ 1099511627777)) : rightB num first = false := by
  cases h2 : rightB num first with
  | false => rfl
  | true => exact absurd ((rightB_iff _ _).1 h2) h

/-- What is laid, and the error. -/
def hdrP (num first : Int) : List UInt8 × Nat := if rightB num first = true then (frameF 2 num.toNat (twoN num.toNat first.toNat), 0) else ([], 1)

/-- Some numbers off the front: the numbers, what stands behind; none where one is no number or too great. -/
def unN (l : List UInt8) : Nat → Option (List Nat × List UInt8)
  | 0 => some ([], l)
  | k + 1 => match unN l k with
    | none => none
    | some (vs, r) => if (dec r).2.2 ≠ 0 ∨ 2199023255552 < (dec r).1 then none else some (vs ++ [(dec r).1], r.drop (dec r).2.1)

abbrev Hd := Nat × Nat × Nat × Nat
def hdBad : Hd := (0, 0, 0, 71)

/-- What the program reads. -/
def hofG (l : List UInt8) : Hd :=
  if (decF l).2.2 ≠ 0 ∨ (decF l).1.kind ≠ 2 then hdBad
  else match unN (decF l).1.body 2 with
    | some ([x, y], r) => if r ≠ [] ∨ x ≠ (decF l).1.seq ∨ rightB x y = false then hdBad else (x, y, (decF l).2.1, 0)
    | _ => hdBad

/-- What the reference reads. -/
def hofR (l : List UInt8) : Hd :=
  if (decF l).2.2 ≠ 0 ∨ (decF l).1.kind ≠ 2 then hdBad
  else if (dec (decF l).1.body).2.2 ≠ 0 then hdBad
  else if (dec ((decF l).1.body.drop (dec (decF l).1.body).2.1)).2.2 ≠ 0 ∨ 999999 < (dec (decF l).1.body).1 ∨ 2199023255552 < (dec ((decF l).1.body.drop (dec (decF l).1.body).2.1)).1 then hdBad
  else if (hdrP ((dec (decF l).1.body).1 : Int) ((dec ((decF l).1.body.drop (dec (decF l).1.body).2.1)).1 : Int)).2 ≠ 0 ∨
      (hdrP ((dec (decF l).1.body).1 : Int) ((dec ((decF l).1.body.drop (dec (decF l).1.body).2.1)).1 : Int)).1 ≠ l.take (decF l).2.1 then hdBad
  else ((dec (decF l).1.body).1, (dec ((decF l).1.body.drop (dec (decF l).1.body).2.1)).1, (decF l).2.1, 0)

theorem frameF_inj {k1 s1 k2 s2 : Nat} {b1 b2 : List UInt8} (h1 : 1 ≤ k1) (h2 : k1 ≤ 7) (h3 : b1.length ≤ 16384) (h4 : s1 ≤ 1099511627776) (g1 : 1 ≤ k2) (g2 : k2 ≤ 7) (g3 : b2.length ≤ 16384) (g4 : s2 ≤ 1099511627776)
    (h : frameF k1 s1 b1 = frameF k2 s2 b2) : k1 = k2 ∧ s1 = s2 ∧ b1 = b2 := by
  have e1 := decF_laid h1 h2 h3 h4 []
  have e2 := decF_laid g1 g2 g3 g4 []
  rw [h, e2] at e1
  injection e1 with e1 _
  injection e1 with a b c
  exact ⟨a.symm, b.symm, c.symm⟩

theorem twoN_len (a b : Nat) (ha : a < 18446744073709551616) (hb : b < 18446744073709551616) : (twoN a b).length ≤ 20 ∧ 2 ≤ (twoN a b).length := by
  have h1 := enc_len10 a ha
  have h2 := enc_len10 b hb
  have h3 := enc_len_pos a
  have h4 := enc_len_pos b
  unfold twoN
  rw [List.length_append]; omega

theorem unN_two (l : List UInt8) : unN l 2 = if (dec l).2.2 ≠ 0 ∨ 2199023255552 < (dec l).1 then none
    else if (dec (l.drop (dec l).2.1)).2.2 ≠ 0 ∨ 2199023255552 < (dec (l.drop (dec l).2.1)).1 then none
    else some ([(dec l).1, (dec (l.drop (dec l).2.1)).1], (l.drop (dec l).2.1).drop (dec (l.drop (dec l).2.1)).2.1) := by
  have e1 : unN l 1 = if (dec l).2.2 ≠ 0 ∨ 2199023255552 < (dec l).1 then none else some ([(dec l).1], l.drop (dec l).2.1) := rfl
  show (match unN l 1 with | none => none | some (vs, r) => if (dec r).2.2 ≠ 0 ∨ 2199023255552 < (dec r).1 then none else some (vs ++ [(dec r).1], r.drop (dec r).2.1)) = _
  rw [e1]
  by_cases h : (dec l).2.2 ≠ 0 ∨ 2199023255552 < (dec l).1
  · rw [if_pos h, if_pos h]
  · rw [if_neg h, if_neg h]; rfl

/-- Both sides read alike. -/
theorem hof_same (l : List UInt8) : hofG l = hofR l := by
  obtain ⟨y, hy⟩ : ∃ y, decF l = y := ⟨_, rfl⟩
  obtain ⟨⟨kind, seq, body⟩, n, e⟩ := y
  unfold hofG hofR
  rw [hy]
  simp only
  by_cases c0 : e ≠ 0 ∨ kind ≠ 2
  · rw [if_pos c0, if_pos c0]
  rw [if_neg c0, if_neg c0]
  have he : e = 0 := by omega
  have hk : kind = 2 := by omega
  subst he hk
  obtain ⟨_, _, f3, f4, _, _, f7, _⟩ := decF_one hy
  simp only at f3 f4 f7
  rw [f7, unN_two]
  obtain ⟨x, hx⟩ : ∃ x, dec body = x := ⟨_, rfl⟩
  obtain ⟨u, p, e1⟩ := x
  rw [hx]
  simp only
  by_cases c1 : e1 ≠ 0
  · rw [if_pos (Or.inl c1), if_pos c1]
  rw [if_neg c1]
  have he1 : e1 = 0 := by omega
  subst he1
  obtain ⟨x1, x2, x3⟩ := dec_enc hx
  obtain ⟨z, hz⟩ : ∃ z, dec (body.drop p) = z := ⟨_, rfl⟩
  obtain ⟨v, q, e2⟩ := z
  rw [hz]
  simp only
  have hub := (dec_bd body).1
  have hvb := (dec_bd (body.drop p)).1
  rw [hx] at hub
  rw [hz] at hvb
  simp only at hub hvb
  by_cases c2 : e2 ≠ 0
  · rw [if_pos (Or.inl c2)]
    split <;> (rename_i hh; split at hh <;> simp_all)
  have he2 : e2 = 0 := by omega
  subst he2
  obtain ⟨y1, y2, y3⟩ := dec_enc hz
  by_cases c3 : 2199023255552 < u
  · rw [if_pos (Or.inr c3), if_pos (by omega)]
  rw [if_neg (by omega)]
  by_cases c4 : 2199023255552 < v
  · rw [if_pos (Or.inr c4), if_pos (by omega)]
  rw [if_neg (by omega)]
  simp only
  by_cases c5 : rightB (u : Int) (v : Int) = true
  · have c5' := (rightB_iff _ _).1 c5
    have hP : hdrP (u : Int) (v : Int) = (frameF 2 u (twoN u v), 0) := by unfold hdrP; rw [if_pos c5]; rfl
    rw [hP, if_neg (by omega : ¬ ((0 : Nat) ≠ 0 ∨ 999999 < u ∨ 2199023255552 < v))]
    have hl := twoN_len u v hub hvb
    have hcut : twoN u v = body.take (p + q) := by
      unfold twoN
      rw [x1, y1]
      exact (List.take_add ..).symm
    have hpq : p + q ≤ body.length := by rw [List.length_drop] at y3; omega
    by_cases c6 : (List.drop q (List.drop p body)) ≠ [] ∨ u ≠ seq
    · rw [if_pos (by rcases c6 with h | h; exact .inl h; exact .inr (.inl h)), if_pos]
      refine .inr fun h => ?_
      obtain ⟨_, a2, a3⟩ := frameF_inj (by omega) (by omega) (by omega) (by omega) (by omega) (by omega) f4 f3 h
      rcases c6 with h2 | h2
      · apply h2
        rw [List.drop_drop]
        apply List.drop_eq_nil_of_le
        rw [hcut] at a3
        have := congrArg List.length a3
        rw [List.length_take] at this
        omega
      · exact h2 a2
    · have g1 : List.drop q (List.drop p body) = [] := by
        apply Classical.byContradiction; intro h; exact c6 (.inl h)
      have g2 : u = seq := by omega
      rw [if_neg (by rw [g1, c5]; simp [g2]), if_neg]
      rintro (h | h)
      · exact h rfl
      · apply h
        rw [List.drop_drop, List.drop_eq_nil_iff] at g1
        rw [hcut, List.take_of_length_le g1, g2]
  · have c5' : rightB (u : Int) (v : Int) = false := by simpa using c5
    have hP : hdrP (u : Int) (v : Int) = ([], 1) := by unfold hdrP; rw [if_neg c5]
    rw [hP, if_pos (.inr (.inr c5')), if_pos (.inl (by decide) : ((([], 1) : List UInt8 × Nat)).2 ≠ 0 ∨ _), ite_self]

theorem hofG_bd (l : List UInt8) : (hofG l).1 ≤ 999999 ∧ (hofG l).2.1 ≤ 1099511627777 ∧ (hofG l).2.2.1 ≤ l.length ∧ (hofG l).2.2.2 ≤ 71 := by
  unfold hofG
  by_cases h1 : (decF l).2.2 ≠ 0 ∨ (decF l).1.kind ≠ 2
  · rw [if_pos h1]; simp [hdBad]
  · rw [if_neg h1]
    split
    · split
      · simp [hdBad]
      · rename_i _ x y r h2 h3
        have h4 : rightB x y = true := by
          cases h5 : rightB (x : Int) (y : Int) with
          | true => rfl
          | false => exact absurd (.inr (.inr h5)) h3
        have h6 := (rightB_iff _ _).1 h4
        have h7 : (decF l).2.1 ≤ l.length := by
          obtain ⟨z, hz⟩ : ∃ z, decF l = z := ⟨_, rfl⟩
          obtain ⟨f, n, e⟩ := z
          rw [hz] at h1 ⊢
          have he : e = 0 := by simp only at h1; omega
          subst he
          exact (decF_one hz).2.2.2.2.2.1
        exact ⟨by show x ≤ _; omega, by show y ≤ _; omega, h7, by show 0 ≤ _; omega⟩
    · simp [hdBad]
end Go.Proofs.YtffhejaeliphcaaDoor
