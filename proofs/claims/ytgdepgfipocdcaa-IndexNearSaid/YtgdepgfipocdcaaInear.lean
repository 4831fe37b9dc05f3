/-
  Plain facts on the marks of frames of rising numbers. No condition.
-/
import Derived.Test.YtgdepgfipocdcaaIbuild
namespace Go.Proofs.Ytgdepgfipocdcaa
open Go.RowKit
set_option linter.unusedVariables false

/-- Frames of rising numbers from 'first' on, laid behind one another up to T. -/
structure Run (L : List Pl) (first T : Int) : Prop where
  num : ∀ (i : Nat) p, L[i]? = some p → p.seq = first + (i : Int) ∧ 0 ≤ p.at' ∧ p.at' < T
  up : L.Pairwise (fun p q => p.seq < q.seq ∧ p.at' < q.at')

theorem Run.nil (first : Int) : Run [] first 0 := ⟨fun i p h => by simp at h, List.Pairwise.nil⟩

theorem Run.snoc {L : List Pl} {first T : Int} (R : Run L first T) (p : Pl) (hs : p.seq = first + (L.length : Int)) (ha : p.at' = T) (hT : 0 ≤ T) {T' : Int} (hT' : T < T') : Run (L ++ [p]) first T' := by
  refine ⟨fun i q h => ?_, ?_⟩
  · by_cases hi : i < L.length
    · rw [List.getElem?_append_left hi] at h
      have := R.num i q h; omega
    · rw [List.getElem?_append_right (by omega)] at h
      have h0 : i - L.length = 0 := by
        by_cases h0 : i - L.length = 0
        · exact h0
        · rw [List.getElem?_eq_none (by simp; omega)] at h; cases h
      rw [h0] at h
      simp at h
      subst h
      have : i = L.length := by
        have := hi; omega
      subst this
      exact ⟨hs, by omega, by omega⟩
  · rw [List.pairwise_append]
    refine ⟨R.up, by simp, fun x hx y hy => ?_⟩
    simp at hy
    subst hy
    obtain ⟨i, hi, rfl⟩ := List.getElem_of_mem hx
    have := R.num i _ (List.getElem?_eq_getElem hi)
    omega

theorem every_mem {s : Nat} : ∀ (ps : List Pl) (i : Nat) (m : Mk), m ∈ every s i ps → ∃ (j : Nat) (p : Pl), ps[j]? = some p ∧ (i + j) % s = 0 ∧ m = ⟨p.seq, p.at'⟩
  | [], i, m, h => by simp [every] at h
  | p :: r, i, m, h => by
    rw [every] at h
    have step : m ∈ every s (i + 1) r → ∃ (j : Nat) (q : Pl), (p :: r)[j]? = some q ∧ (i + j) % s = 0 ∧ m = ⟨q.seq, q.at'⟩ := fun h => by
      obtain ⟨j, q, h1, h2, h3⟩ := every_mem r (i + 1) m h
      exact ⟨j + 1, q, by simpa using h1, by rw [← h2]; congr 1; omega, h3⟩
    split at h
    · rename_i hz
      rcases List.mem_cons.1 h with rfl | h
      · exact ⟨0, p, rfl, by simpa using hz, rfl⟩
      · exact step h
    · exact step h

theorem every_at {s : Nat} : ∀ (ps : List Pl) (i j : Nat) (p : Pl), ps[j]? = some p → (i + j) % s = 0 → (⟨p.seq, p.at'⟩ : Mk) ∈ every s i ps
  | [], i, j, p, h, _ => by simp at h
  | q :: r, i, 0, p, h, hz => by
    simp at h
    subst h
    rw [every, if_pos (by simpa using hz)]
    exact List.mem_cons_self
  | q :: r, i, j + 1, p, h, hz => by
    have := every_at r (i + 1) j p (by simpa using h) (by rw [← hz]; congr 1; omega)
    rw [every]
    split
    · exact List.mem_cons_of_mem _ this
    · exact this

theorem every_up {s : Nat} : ∀ (ps : List Pl) (i : Nat), ps.Pairwise (fun p q => p.seq < q.seq ∧ p.at' < q.at') → (every s i ps).Pairwise (fun x y => x.s < y.s ∧ x.a < y.a)
  | [], i, _ => by simp [every]
  | p :: r, i, h => by
    rw [List.pairwise_cons] at h
    have ih := every_up (s := s) r (i + 1) h.2
    rw [every]
    split
    · rw [List.pairwise_cons]
      refine ⟨fun m hm => ?_, ih⟩
      obtain ⟨j, q, h1, _, rfl⟩ := every_mem r (i + 1) m hm
      exact h.1 q (List.mem_of_getElem? h1)
    · exact ih

theorem near_ok {L : List Pl} {first T : Int} {s : Nat} (R : Run L first T) (hf : 1 ≤ first) (hf2 : first ≤ 549755813888) (hn : L.length ≤ 512) (hT : T ≤ 1000000) : okN (every s 0 L) = true := by
  rw [okN_iff]
  have hl := every_len s L 0
  refine ⟨by omega, fun m hm => ?_, every_up L 0 R.up⟩
  obtain ⟨j, p, h1, _, rfl⟩ := every_mem L 0 m hm
  have h2 := R.num j p h1
  have hj := (List.getElem?_eq_some_iff.1 h1).1
  show 0 < p.seq ∧ -1 < p.at' ∧ p.seq ≤ 1099511627776 ∧ p.at' ≤ 1099511627776
  omega

theorem near_early {L : List Pl} {first T : Int} {s n l : Nat} (R : Run L first T) (h : LastIs (every s 0 L) (first - 1) n l) (hn : (every s 0 L).length = n) : l = 0 := by
  obtain ⟨h1, h2, h3⟩ := h
  by_cases hl : l = 0
  · exact hl
  · have e1 : (every s 0 L)[l - 1]? = some ((every s 0 L)[l - 1]'(by omega)) := List.getElem?_eq_getElem (by omega)
    have := h3 _ (by omega) e1
    obtain ⟨j, p, h4, _, h5⟩ := every_mem L 0 _ (List.mem_of_getElem? e1)
    have h6 := (R.num j p h4).1
    rw [h5] at this
    simp only at this
    omega

theorem near_found {L : List Pl} {first T : Int} {s n l which : Nat} (R : Run L first T) (hs : 0 < s) (hw : which < L.length) (h : LastIs (every s 0 L) (first + (which : Int)) n l) (hn : (every s 0 L).length = n) :
    ∃ (k : Nat) (p : Pl), 0 < l ∧ (every s 0 L)[l - 1]? = some ⟨first + (k : Int), p.at'⟩ ∧ L[k]? = some p ∧ k ≤ which ∧ which - k < s := by
  obtain ⟨h1, h2, h3⟩ := h
  have hup := every_up (s := s) L 0 R.up
  have hz : (0 + (which - which % s)) % s = 0 := by
    rw [Nat.zero_add]
    have := Nat.div_add_mod which s
    rw [show which - which % s = s * (which / s) by omega]
    exact Nat.mul_mod_right _ _
  have hlt := Nat.mod_lt which hs
  have hle := Nat.mod_le which s
  have ep : L[which - which % s]? = some (L[which - which % s]'(by omega)) := List.getElem?_eq_getElem (by omega)
  have hm := every_at L 0 _ _ ep hz
  obtain ⟨i, hi, hi2⟩ := List.getElem_of_mem hm
  have ei : (every s 0 L)[i]? = some (every s 0 L)[i] := List.getElem?_eq_getElem hi
  rw [hi2] at ei
  have hq := (R.num _ _ ep).1
  have hil : i < l := by
    by_cases hil : i < l
    · exact hil
    · exfalso
      have el : (every s 0 L)[l]? = some ((every s 0 L)[l]'(by omega)) := List.getElem?_eq_getElem (by omega)
      have hx := h2 _ el
      by_cases he : l = i
      · subst he
        rw [el] at ei
        injection ei with ei
        rw [ei] at hx
        simp only at hx
        omega
      · have := (pair_at hup (by omega) el ei).1
        simp only at this
        omega
  have e1 : (every s 0 L)[l - 1]? = some ((every s 0 L)[l - 1]'(by omega)) := List.getElem?_eq_getElem (by omega)
  have hx := h3 _ (by omega) e1
  obtain ⟨k, p, h4, _, h5⟩ := every_mem L 0 _ (List.mem_of_getElem? e1)
  have hk := (R.num k p h4).1
  rw [h5] at hx e1
  simp only at hx
  rw [hk] at e1
  have hge : which - which % s ≤ k := by
    by_cases he : i = l - 1
    · subst he
      rw [e1] at ei
      injection ei with ei
      have := congrArg Mk.s ei
      simp only at this
      omega
    · have := (pair_at hup (by omega) ei e1).1
      simp only at this
      omega
  exact ⟨k, p, by omega, e1, h4, by omega, by omega⟩
end Go.Proofs.Ytgdepgfipocdcaa
