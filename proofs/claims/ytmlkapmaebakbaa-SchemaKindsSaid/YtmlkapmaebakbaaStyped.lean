/-
  The walks of Lift, of the five Event, of Key and Worth. No condition.
-/
import Derived.Test.YtmlkapmaebakbaaRows
import Derived.Test.YtmlkapmaebakbaaEv
import Derived.Test.YtmlkapmaebakbaaBlk
import Derived.Laws.Tables
import Derived.Laws.Rows
import Derived.Deep.Cut
import Derived.Lib.Hide
namespace Go.Proofs.Ytmlkapmaebakbaa
open Go.RowKit
set_option linter.unusedVariables false

theorem lift_any (e : Ev) (w : World) : Calls Try.prog 5 #[e.val] w fun x w' => x = .returned e.val ∧ Below w.heap.size w w' := by
  unfold Ev.val Ev.cells
  go_enter Try.func5, Try.ntmps5
  go_wp2_with fail
  exact bodyPost_ret (v := e.val) (by simp [results, Try.results5, go_sem, Ev.val, Ev.cells]) rfl ⟨rfl, (((Below.refl _ _).alloc (Nat.le_refl _) _).alloc (by simp) _).alloc (by simp; omega) _⟩

theorem ev1_any (k o i q p : Int) (w : World) : Calls Try.prog 12 #[.agg #[.int .i64 k, .int .i64 o, .int .i64 i, .int .i64 q, .int .i64 p]] w fun x w' => x = .returned (Ev.val ⟨k, o, i, q, p, 0, 0, ⟨#[]⟩, 0, ⟨#[]⟩⟩) ∧ Below w.heap.size w w' := by
  go_enter Try.func12, Try.ntmps12
  go_wp2_with fail
  exact bodyPost_ret (v := Ev.val ⟨k, o, i, q, p, 0, 0, ⟨#[]⟩, 0, ⟨#[]⟩⟩) (by simp [results, Try.results12, go_sem, Ev.val, Ev.cells]) rfl ⟨rfl, ((Below.refl _ _).alloc (Nat.le_refl _) _).alloc (by simp) _⟩

theorem key_any (k o i q p : Int) (w : World) : Calls Try.prog 6 #[.agg #[.int .i64 k, .int .i64 o, .int .i64 i, .int .i64 q, .int .i64 p]] w fun x w' => x = .returned (.int .i64 o) ∧ Below w.heap.size w w' := by
  go_enter Try.func6, Try.ntmps6
  go_wp2_with fail
  go_ret
  exact ⟨rfl, below_made _ _⟩

theorem worth_any (k o i q p : Int) (w : World) : Calls Try.prog 8 #[.agg #[.int .i64 k, .int .i64 o, .int .i64 i, .int .i64 q, .int .i64 p]] w fun x w' => x = .returned (.int .i64 (wrap64 (q * p))) ∧ Below w.heap.size w w' := by
  go_enter Try.func8, Try.ntmps8
  go_wp2_with fail
  go_ret
  exact ⟨rfl, below_made _ _⟩
end Go.Proofs.Ytmlkapmaebakbaa
