/-
  The walks of Lift, of the five Event. No condition.
-/
import Derived.Test.YtfpmlmohmmccjaaDoorRows
import Derived.Test.YtfpmlmohmmccjaaDoorEv
import Derived.Test.YtfpmlmohmmccjaaDoorBlk
import Derived.Laws.Tables
import Derived.Laws.Rows
import Derived.Deep.Cut
import Derived.Lib.Hide
namespace Go.Proofs.YtfpmlmohmmccjaaDoor
open Go.RowKit
set_option linter.unusedVariables false

theorem lift_any (e : Ev) (w : World) : Calls Tryd.prog 25 #[e.val] w fun x w' => x = .returned e.val ∧ Below w.heap.size w w' := by
  unfold Ev.val Ev.cells
  go_enter Tryd.func25, Tryd.ntmps25
  go_wp2_with fail
  exact bodyPost_ret (v := e.val) (by simp [results, Tryd.results25, go_sem, Ev.val, Ev.cells]) rfl ⟨rfl, (((Below.refl _ _).alloc (Nat.le_refl _) _).alloc (by simp) _).alloc (by simp; omega) _⟩

theorem ev1_any (k o i q p : Int) (w : World) : Calls Tryd.prog 41 #[.agg #[.int .i64 k, .int .i64 o, .int .i64 i, .int .i64 q, .int .i64 p]] w fun x w' => x = .returned (Ev.val ⟨k, o, i, q, p, 0, 0, ⟨#[]⟩, 0, ⟨#[]⟩⟩) ∧ Below w.heap.size w w' := by
  go_enter Tryd.func41, Tryd.ntmps41
  go_wp2_with fail
  exact bodyPost_ret (v := Ev.val ⟨k, o, i, q, p, 0, 0, ⟨#[]⟩, 0, ⟨#[]⟩⟩) (by simp [results, Tryd.results41, go_sem, Ev.val, Ev.cells]) rfl ⟨rfl, ((Below.refl _ _).alloc (Nat.le_refl _) _).alloc (by simp) _⟩

end Go.Proofs.YtfpmlmohmmccjaaDoor
