/-
  Plain facts on closed bytes. No condition.
-/
import Derived.Test.YtffhejaeliphcaaDoorMCwalk
namespace Go.Proofs.YtffhejaeliphcaaDoor
open Go.RowKit
set_option linter.unusedVariables false

theorem closedB_iff (l : List UInt8) (h : 4 ≤ l.length) : closedB l = true ↔ upd 4294967295 l = bitN 32 4294967295 := by
  unfold closedB
  have h2 := closed_iff (l.take (l.length - 4)) (l.drop (l.length - 4)) (by simp; omega)
  rw [List.take_append_drop] at h2
  simp only [h, decide_true, Bool.true_and, beq_iff_eq]
  exact h2

theorem closedB_whole (l : List UInt8) : closedB (l ++ four (sumN 0 l)) = true := by
  rw [closedB_iff _ (by simp [four])]
  exact (closed_iff l (four (sumN 0 l)) rfl).1 rfl

theorem whole_sum (l : List UInt8) : sumN 0 (l ++ four (sumN 0 l)) = 558161692 := by
  have h := (closed_iff l (four (sumN 0 l)) rfl).1 rfl
  unfold sumN at h ⊢
  simp only [Nat.sub_zero] at h ⊢
  rw [h]
  decide +kernel
end Go.Proofs.YtffhejaeliphcaaDoor
