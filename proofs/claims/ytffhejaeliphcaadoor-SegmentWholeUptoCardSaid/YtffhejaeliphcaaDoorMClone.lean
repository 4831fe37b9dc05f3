/-
  The walk of slices.Clone at bytes. Condition: the slice lies in memory.
-/
import Derived.Test.YtffhejaeliphcaaDoorMBytes
import Derived.WalkSpells
import Derived.Lib.Hide
import Derived.WalkLawsBesides
import Derived.Lib.SliceRun
namespace Go.Proofs.YtffhejaeliphcaaDoor
open Go.RowKit
set_option linter.unusedVariables false

/-- A copy in new memory, or nil. -/
theorem clone_any (a1 : Option Addr) (n1 c1 : Nat) (l : List UInt8) (w : World) (hn : n1 ≤ 140737488355328) (r1 : RowAt w a1 n1 c1 1 (l.map B)) (h0 : a1 = none → n1 = 0) :
    Calls Tryd.prog 63 #[.slice a1 n1 c1] w (GivesB 5 w l) := by
  have e1 : l.length = n1 := by simpa using r1.len
  have H1 := Lib.hid e1
  cases a1 with
  | none =>
    obtain rfl := h0 rfl
    obtain rfl : l = [] := List.eq_nil_of_length_eq_zero e1
    clear e1 h0
    have kn := Lib.run_eql_slice_nil (P := Tryd.prog) w 22 5 none 0 c1 0 0 Tryd.underlying22
    go_enter Tryd.func63, Tryd.ntmps63
    go_wp2_with fail
    go_ret
    exact ⟨none, 0, rfl, World.ownsRow_nil _ _ _ _, Below.refl _ _⟩
  | some x =>
    have ho := own_lit w [] 0 1 5 rfl (by decide)
    have hb := below_made w (.cells [].toArray 5)
    have hsz := hb.size
    clear e1 h0
    have kn := Lib.run_eql_slice_nil (P := Tryd.prog) w 22 5 (some x) n1 c1 0 0 Tryd.underlying22
    go_enter Tryd.func63, Tryd.ntmps63
    go_wp2_with (at_builtin; refine wpList_app rfl _ _ 22 rfl slB rfl ho rfl (r1.below hb) (B_one _) (by omega) hsz fun a3 c3 w3 hown3 hg3 => ?_)
    go_ret
    rw [List.nil_append, Nat.zero_add] at hown3
    have hl := H1.out
    exact ⟨a3, c3, by rw [hl]; rfl, by rw [hl]; exact hown3, hb.grown hg3 hsz (own_block ho)⟩

end Go.Proofs.YtffhejaeliphcaaDoor
