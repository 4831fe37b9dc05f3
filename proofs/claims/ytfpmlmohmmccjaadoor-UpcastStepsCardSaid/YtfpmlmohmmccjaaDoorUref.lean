/-
  The walks of the reference's Has, Last, Nums at any event. No condition.
-/
import Derived.Test.YtfpmlmohmmccjaaDoorUtab
import Derived.Test.YtfpmlmohmmccjaaDoorSev
namespace Go.Proofs.YtfpmlmohmmccjaaDoor
open Go.RowKit
set_option linter.unusedVariables false

theorem rhas_any (v : Int) (w : World) (h1 : 1 ≤ v) (h5 : v ≤ 5) : Calls Tryd.prog 24 #[.int .i64 v] w fun x w' => x = .returned (.int .i64 (hasV v)) ∧ Below w.heap.size w w' := by
  have hc : v = 1 ∨ v = 2 ∨ v = 3 ∨ v = 4 ∨ v = 5 := by omega
  clear h1 h5
  rcases hc with rfl | rfl | rfl | rfl | rfl
  all_goals
    simp only [hasV, if_true, Int.reduceEq, if_false]
    go_enter Tryd.func24, Tryd.ntmps24
    go_wp2_with fail
    go_ret
    exact ⟨rfl, below_made _ _⟩

theorem rlast_any (v : Int) (w : World) (h1 : 1 ≤ v) (h5 : v ≤ 5) : Calls Tryd.prog 22 #[.int .i64 v] w fun x w' => x = .returned (.int .i64 (lastK v)) ∧ Below w.heap.size w w' := by
  have hc : v = 1 ∨ v = 2 ∨ v = 3 ∨ v = 4 ∨ v = 5 := by omega
  clear h1 h5
  rcases hc with rfl | rfl | rfl | rfl | rfl
  all_goals
    simp only [lastK, Int.reduceLT, if_true, Int.reduceEq, if_false]
    go_enter Tryd.func22, Tryd.ntmps22
    go_wp2_with fail
    go_ret
    exact ⟨rfl, below_made _ _⟩

theorem rnums_any (e : Ev) (w : World) : Calls Tryd.prog 23 #[e.val] w fun x w' => ∃ b, x = .returned (.slice (some ⟨b, 0, none⟩) 11 11) ∧ w.heap.size ≤ b ∧ w'.heap[b]? = some (.cells (arr11 (numAt e)) 3 (0, 0)) ∧ Below w.heap.size w w' := by
  unfold Ev.val Ev.cells
  go_enter Tryd.func23, Tryd.ntmps23
  go_wp2_with fail
  go_ret
  refine ⟨w.heap.size + 1, rfl, by omega, ?_, below_next (below_made _ _) (below_made _ _)⟩
  have hs : (w.alloc (.cells e.cells 24)).heap.size = w.heap.size + 1 := by simp
  have h := heap_alloc_new (w.alloc (.cells e.cells 24)) (.cells (arr11 (numAt e)) 3)
  rw [hs] at h
  exact h
end Go.Proofs.YtfpmlmohmmccjaaDoor
