/-
  What seals a segment, as data. No condition.
-/
import Derived.Test.YtffhejaeliphcaaDoorMGs
namespace Go.Proofs.YtffhejaeliphcaaDoor
open Go.RowKit
set_option linter.unusedVariables false

/-- The frame that seals, or the error. -/
def footF (l : List UInt8) (t : Int) : List UInt8 × Nat :=
  if t < 1 ∨ 64 < t then ([], 1)
  else if (scanS l).2.2 ≠ 0 then ([], (scanS l).2.2)
  else if (scanS l).1.sealed = true then ([], 72)
  else if (scanS l).1.good ≠ l.length then ([], 60)
  else if (scanS l).1.count = 0 then ([], 93)
  else encF 3 ((scanS l).1.num : Int) (footB (scanS l).1.first (scanS l).1.count t.toNat (marksQ (scanS l).2.1 t.toNat))
theorem footF_arg {l : List UInt8} {t : Int} (h : t < 1 ∨ 64 < t) : footF l t = ([], 1) := by unfold footF; rw [if_pos h]
theorem footF_err {l : List UInt8} {t : Int} {s : Sg} {P : List Pc} {e : Nat} (hs : scanS l = (s, P, e)) (h : ¬ (t < 1 ∨ 64 < t)) (h1 : e ≠ 0) : footF l t = ([], e) := by unfold footF; rw [if_neg h, hs]; simp only; rw [if_pos h1]
theorem footF_sealed {l : List UInt8} {t : Int} {s : Sg} {P : List Pc} (hs : scanS l = (s, P, 0)) (h : ¬ (t < 1 ∨ 64 < t)) (h1 : s.sealed = true) : footF l t = ([], 72) := by unfold footF; rw [if_neg h, hs]; simp only; rw [if_neg (by simp), if_pos h1]
theorem footF_torn {l : List UInt8} {t : Int} {s : Sg} {P : List Pc} (hs : scanS l = (s, P, 0)) (h : ¬ (t < 1 ∨ 64 < t)) (h1 : s.sealed = false) (h2 : s.good ≠ l.length) : footF l t = ([], 60) := by unfold footF; rw [if_neg h, hs]; simp only; rw [if_neg (by simp), if_neg (by rw [h1]; simp), if_pos h2]
theorem footF_empty {l : List UInt8} {t : Int} {s : Sg} {P : List Pc} (hs : scanS l = (s, P, 0)) (h : ¬ (t < 1 ∨ 64 < t)) (h1 : s.sealed = false) (h2 : s.good = l.length) (h3 : s.count = 0) : footF l t = ([], 93) := by unfold footF; rw [if_neg h, hs]; simp only; rw [if_neg (by simp), if_neg (by rw [h1]; simp), if_neg (by rw [h2]; simp), if_pos h3]
theorem footF_ok {l : List UInt8} {t : Int} {s : Sg} {P : List Pc} (hs : scanS l = (s, P, 0)) (h : ¬ (t < 1 ∨ 64 < t)) (h1 : s.sealed = false) (h2 : s.good = l.length) (h3 : s.count ≠ 0) :
    footF l t = encF 3 (s.num : Int) (footB s.first s.count t.toNat (marksQ P t.toNat)) := by unfold footF; rw [if_neg h, hs]; simp only; rw [if_neg (by simp), if_neg (by rw [h1]; simp), if_neg (by rw [h2]; simp), if_neg h3]
theorem footB_len (y cnt t : Nat) (ms : List Mk) (h1 : y ≤ 2199023255552) (h2 : cnt ≤ 2199023255552) (h3 : t ≤ 2199023255552) : (footB y cnt t ms).length ≤ 10280 := by
  unfold footB
  have := twoN_len y cnt (by omega) (by omega)
  have := enc_len10 t (by omega)
  have := encIx_bd ms
  rw [List.length_append, List.length_append]
  omega
/-- What is so of every segment that is read. -/
theorem scanS_facts {l : List UInt8} {s : Sg} {P : List Pc} (h : scanS l = (s, P, 0)) : 1 ≤ s.num ∧ s.num ≤ 999999 ∧ 1 ≤ s.first ∧ s.first ≤ 1099511627777 ∧ s.count = P.length ∧ P.length ≤ 512 ∧
    ∃ d e, RunIs l d s.first P e ∧ d ≤ 16404 := by
  unfold scanS scanWith at h
  by_cases he : (hofG l).2.2.2 ≠ 0
  · rw [if_pos he] at h
    injection h with _ h
    injection h with _ h
    exact absurd h he
  · rw [if_neg he] at h
    obtain ⟨g1, g2, g3⟩ := hofG_ok (l := l) (by omega)
    have g4 := hofG_bd l
    injection h with h1 h
    injection h with h2 _
    have hr := runF_is (l := l) (d := (hofG l).2.2.1) (first := ((hofG l).2.1 : Int)) g4.2.2.1
    obtain ⟨R, hR⟩ : ∃ R, runF l (hofG l).2.2.1 (hofG l).2.1 512 = R := ⟨_, rfl⟩
    rw [hR] at hr h1 h2
    obtain ⟨R1, R2⟩ := R
    simp only at hr h2
    subst h2
    have hf := hr.facts
    have hs : s.num = (hofG l).1 ∧ s.first = (hofG l).2.1 ∧ s.count = R1.length := by
      rw [← h1]
      unfold segOf
      split
      · exact ⟨rfl, rfl, rfl⟩
      · split <;> exact ⟨rfl, rfl, rfl⟩
    obtain ⟨q1, q2, q3⟩ := hs
    rw [q1, q2, q3]
    exact ⟨g1, g4.1, g2, g4.2.1, rfl, hf.1, _, _, hr, g3⟩
end Go.Proofs.YtffhejaeliphcaaDoor
