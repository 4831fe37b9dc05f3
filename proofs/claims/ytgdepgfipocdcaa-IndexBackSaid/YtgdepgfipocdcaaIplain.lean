/-
  Plain facts on written indices: there and back, and one form alone. No condition.
-/
import Derived.Test.YtgdepgfipocdcaaIdec
namespace Go.Proofs.Ytgdepgfipocdcaa
open Go.RowKit
set_option linter.unusedVariables false

theorem decAll_back (us : List UInt64) (h : us.length ≤ 1024) : decAll (encAll us) 1024 = (us, (encAll us).length, 0) := by
  have hd : dec (encAll us) = (us.length, (enc us.length).length, 0) := dec_of_enc _ _ (by omega)
  rw [decAll, hd]
  have : ¬ (1024 : Int).toNat < us.length := by omega
  simp only [ne_eq, not_true, if_false, this]
  rw [decAllGo_encs (encAll us) [] us _ _ (by rw [encAll, List.drop_left]; simp) (by simp [encAll])]
  simp [encAll]

theorem marks_diffs : ∀ (l : List Mk) (p : Mk), Gd p l → marksOf p (diffs p l) = some l
  | [], p, _ => by simp [diffs, marksOf]
  | m :: r, p, h => by
    obtain ⟨q1, q2, q3, q4⟩ := h.head
    have q5 := h.1
    have q6 := h.2.1
    have e1 : (UInt64.ofNat (m.s - p.s).toNat).toNat = (m.s - p.s).toNat := by rw [UInt64.toNat_ofNat']; omega
    have e2 : (UInt64.ofNat (m.a - p.a).toNat).toNat = (m.a - p.a).toNat := by rw [UInt64.toNat_ofNat']; omega
    have em : (⟨p.s + ((m.s - p.s).toNat : Int), p.a + ((m.a - p.a).toNat : Int)⟩ : Mk) = m := by
      cases m; simp only [Mk.mk.injEq]; simp only at q1 q2; omega
    rw [diffs, marksOf, e1, e2, if_neg (by omega), em, marks_diffs r m h.tail]
    rfl

theorem ix_back {ms : List Mk} (h : okN ms = true) : decIx (encAll (diffs ⟨0, 0⟩ ms)) = (ms, 0) := by
  have hl := diffs_len ms ⟨0, 0⟩
  have h5 := ((okN_iff ms).1 h).1
  unfold decIx
  rw [decAll_back _ (by omega)]
  simp only [ne_eq, not_true, false_or, if_false]
  rw [if_neg (by omega), marks_diffs ms _ (Gd.start h)]
  simp [h]

theorem decAllGo_enc (l : List UInt8) : ∀ (n p : Nat) (acc us : List UInt64) (q : Nat), decAllGo l n p acc = (us, q, 0) → p ≤ l.length →
    ∃ ts, us = acc ++ ts ∧ ts.length = n ∧ q ≤ l.length ∧ l.drop p = encs ts ++ l.drop q
  | 0, p, acc, us, q, h, hp => by
    simp [decAllGo] at h
    obtain ⟨rfl, rfl⟩ := h
    exact ⟨[], by simp, rfl, hp, by simp [encs]⟩
  | n + 1, p, acc, us, q, h, hp => by
    obtain ⟨y, hy⟩ : ∃ y, dec (l.drop p) = y := ⟨_, rfl⟩
    obtain ⟨u, k, e⟩ := y
    rw [decAllGo, hy] at h
    by_cases he : e = 0
    · subst he
      simp only [ne_eq, not_true, if_false] at h
      obtain ⟨h1, h2, h3⟩ := dec_enc hy
      have hu := (dec_bd (l.drop p)).1
      rw [hy] at hu
      simp only at hu
      rw [List.length_drop] at h3
      obtain ⟨ts, i1, i2, i3, i4⟩ := decAllGo_enc l n (p + k) _ us q h (by omega)
      refine ⟨UInt64.ofNat u :: ts, by rw [i1]; simp, by simp [i2], i3, ?_⟩
      have e1 : (UInt64.ofNat u).toNat = u := by rw [UInt64.toNat_ofNat']; omega
      simp only [encs, List.flatMap_cons, e1]
      rw [List.append_assoc]
      have : (l.drop p).take k ++ (l.drop p).drop k = l.drop p := List.take_append_drop _ _
      rw [← this, ← h1, List.drop_drop, i4]
      rfl
    · rw [if_pos he] at h
      injection h with _ h
      injection h with _ h
      exact absurd h he

theorem decAll_enc {l : List UInt8} {most : Int} {us : List UInt64} {q : Nat} (h : decAll l most = (us, q, 0)) : l = encAll us ++ l.drop q ∧ q ≤ l.length := by
  obtain ⟨y, hy⟩ : ∃ y, dec l = y := ⟨_, rfl⟩
  obtain ⟨u, k, e⟩ := y
  rw [decAll, hy] at h
  by_cases he : e = 0
  · subst he
    simp only [ne_eq, not_true, if_false] at h
    by_cases hm : most.toNat < u
    · rw [if_pos hm] at h; simp at h
    · rw [if_neg hm] at h
      obtain ⟨h1, h2, h3⟩ := dec_enc hy
      obtain ⟨ts, i1, i2, i3, i4⟩ := decAllGo_enc l u k [] us q h h3
      rw [List.nil_append] at i1
      subst i1
      refine ⟨?_, i3⟩
      rw [encAll, i2, h1, List.append_assoc, ← i4, List.take_append_drop]
  · rw [if_pos he] at h
    injection h with _ h
    injection h with _ h
    exact absurd h he

theorem diffs_marks : ∀ (n : Nat) (us : List UInt64) (p : Mk) (ms : List Mk), us.length = 2 * n → marksOf p us = some ms → diffs p ms = us
  | 0, us, p, ms, hn, h => by
    obtain rfl : us = [] := List.eq_nil_of_length_eq_zero (by omega)
    simp [marksOf] at h
    subst h; rfl
  | n + 1, us, p, ms, hn, h => by
    match us, hn with
    | u :: v :: r, hn =>
      simp only [List.length_cons] at hn
      rw [marksOf] at h
      split at h
      · cases h
      · rename_i hb
        obtain ⟨ms', h1, h2⟩ := Option.map_eq_some_iff.1 h
        subst h2
        have ih := diffs_marks n r _ ms' (by omega) h1
        rw [diffs, ih]
        simp only
        rw [show (p.s + (u.toNat : Int) - p.s).toNat = u.toNat by omega, show (p.a + (v.toNat : Int) - p.a).toNat = v.toNat by omega]
        simp

theorem ix_err {l : List UInt8} (h : (decIx l).2 ≠ 0) : (decIx l).1 = [] := by
  unfold decIx at h ⊢
  split
  · rfl
  · rw [if_neg (by assumption)] at h
    split
    · rfl
    · rw [if_neg (by assumption)] at h
      split
      · rfl
      · rename_i hms
        simp only [hms] at h
        split
        · rename_i hok; rw [if_pos hok] at h; exact absurd rfl h
        · rfl

theorem ix_one {l : List UInt8} (h : (decIx l).2 = 0) : okN (decIx l).1 = true ∧ encIx (decIx l).1 = (l, 0) := by
  obtain ⟨y, hy⟩ : ∃ y, decAll l 1024 = y := ⟨_, rfl⟩
  obtain ⟨us, q, e⟩ := y
  unfold decIx at h ⊢
  rw [hy] at h ⊢
  simp only at h ⊢
  by_cases he : e = 0
  · subst he
    simp only [ne_eq, not_true, if_false] at h ⊢
    by_cases hq : ¬ q = l.length ∨ ¬ us.length % 2 = 0
    · rw [if_pos hq] at h; simp at h
    · rw [if_neg hq] at h ⊢
      cases hm : marksOf ⟨0, 0⟩ us with
      | none => rw [hm] at h; simp at h
      | some ms =>
        rw [hm] at h
        simp only at h ⊢
        by_cases hok : okN ms = true
        · rw [if_pos hok]
          refine ⟨hok, ?_⟩
          unfold encIx
          rw [if_pos hok, diffs_marks (us.length / 2) us _ ms (by omega) hm]
          obtain ⟨h1, h2⟩ := decAll_enc hy
          rw [List.drop_eq_nil_of_le (by omega), List.append_nil] at h1
          rw [← h1]
        · rw [if_neg hok] at h; simp at h
  · rw [if_pos he] at h; exact absurd h he
end Go.Proofs.Ytgdepgfipocdcaa
