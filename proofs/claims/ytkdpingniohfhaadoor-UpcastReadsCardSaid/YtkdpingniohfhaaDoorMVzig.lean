/-
  The walks of Zig, Zag and the reference's Zag: what each call gives, for every input. No condition beyond that an argument fits its kind.
-/
import Derived.Test.YtkdpingniohfhaaDoorRows
import Derived.Test.YtkdpingniohfhaaDoorMVb
import Derived.WalkSpells
import Derived.WalkLawsBesides
namespace Go.Proofs.YtkdpingniohfhaaDoor
open Go.RowKit
set_option linter.unusedVariables false

set_option maxHeartbeats 400000 in
theorem zig_any (v : Int) (w : World) (h1 : -9223372036854775808 ≤ v) (h2 : v ≤ 9223372036854775807) :
    Calls Tryd.prog 80 #[.int .i64 v] w fun e w' => e = .returned (.int .u64 (zigN v)) ∧ w = w' := by
  go_enter Tryd.func80, Tryd.ntmps80
  go_wp2
  go_ret
  exact ⟨ret_int (zig_bits v h1 h2), rfl⟩

set_option maxHeartbeats 400000 in
theorem zag_any (u : Int) (w : World) (h1 : 0 ≤ u) (h2 : u < 18446744073709551616) :
    Calls Tryd.prog 48 #[.int .u64 u] w fun e w' => e = .returned (.int .i64 (zagN u)) ∧ w = w' := by
  go_enter Tryd.func48, Tryd.ntmps48
  go_wp2
  go_ret
  exact ⟨ret_int (zag_bits u h1 h2), rfl⟩

set_option maxHeartbeats 400000 in
theorem rzag_any (u : Int) (w : World) (h1 : 0 ≤ u) (h2 : u < 18446744073709551616) :
    Calls Tryd.prog 41 #[.int .u64 u] w fun e w' => e = .returned (.int .i64 (zagN u)) ∧ w = w' := by
  go_enter Tryd.func41, Tryd.ntmps41
  go_wp2
  all_goals go_ret
  · rename_i h; exact ⟨ret_int (by unfold zagN; rw [if_pos (by simpa using h)]), rfl⟩
  · rename_i h; exact ⟨ret_int (by unfold zagN; rw [if_neg (by simpa using h)]), rfl⟩

end Go.Proofs.YtkdpingniohfhaaDoor
