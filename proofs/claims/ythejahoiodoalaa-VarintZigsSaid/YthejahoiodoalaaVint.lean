/-
  The walks of Zig, Zag and the reference's Zig and Zag: what each call gives, for every input. No condition beyond that an argument fits its kind.
-/
import Derived.Test.YthejahoiodoalaaRows
import Derived.Test.YthejahoiodoalaaVbits
import Derived.WalkSpells
import Derived.WalkLawsBesides
namespace Go.Proofs.Ythejahoiodoalaa
open Go.RowKit
set_option linter.unusedVariables false

set_option maxHeartbeats 400000 in
theorem zig_any (v : Int) (w : World) (h1 : -9223372036854775808 ≤ v) (h2 : v ≤ 9223372036854775807) :
    Calls Try.prog 13 #[.int .i64 v] w fun e w' => e = .returned (.int .u64 (zigN v)) ∧ w = w' := by
  go_enter Try.func13, Try.ntmps13
  go_wp2
  go_ret
  exact ⟨ret_int (zig_bits v h1 h2), rfl⟩

set_option maxHeartbeats 400000 in
theorem zag_any (u : Int) (w : World) (h1 : 0 ≤ u) (h2 : u < 18446744073709551616) :
    Calls Try.prog 14 #[.int .u64 u] w fun e w' => e = .returned (.int .i64 (zagN u)) ∧ w = w' := by
  go_enter Try.func14, Try.ntmps14
  go_wp2
  go_ret
  exact ⟨ret_int (zag_bits u h1 h2), rfl⟩

set_option maxHeartbeats 400000 in
theorem rzig_any (v : Int) (w : World) (h1 : -9223372036854775808 ≤ v) (h2 : v ≤ 9223372036854775807) :
    Calls Try.prog 15 #[.int .i64 v] w fun e w' => e = .returned (.int .u64 (zigN v)) ∧ w = w' := by
  go_enter Try.func15, Try.ntmps15
  go_wp2
  all_goals go_ret
  · exact ⟨ret_int (by unfold zigN; split <;> omega), rfl⟩
  · exact ⟨ret_int (by unfold zigN; split <;> omega), rfl⟩

set_option maxHeartbeats 400000 in
theorem rzag_any (u : Int) (w : World) (h1 : 0 ≤ u) (h2 : u < 18446744073709551616) :
    Calls Try.prog 16 #[.int .u64 u] w fun e w' => e = .returned (.int .i64 (zagN u)) ∧ w = w' := by
  go_enter Try.func16, Try.ntmps16
  go_wp2
  all_goals go_ret
  · rename_i h; exact ⟨ret_int (by unfold zagN; rw [if_pos (by simpa using h)]), rfl⟩
  · rename_i h; exact ⟨ret_int (by unfold zagN; rw [if_neg (by simpa using h)]), rfl⟩

set_option maxHeartbeats 400000 in
theorem small_walk (v x : Int) (w : World) (h1 : -9223372036854775808 ≤ v) (h2 : v ≤ 9223372036854775807) (h3 : -9223372036854775808 ≤ x) (h4 : x ≤ 9223372036854775807) :
    Calls Try.prog 3 #[.int .i64 v, .int .i64 x] w fun e w' => e = .returned (.bool true) ∧ Below w.heap.size w w' := by
  by_cases hc : 0 ≤ v ∧ 0 ≤ x ∧ v ≤ x
  · obtain ⟨c1, c2, c3⟩ := hc
    have hs := zig_small v x c1 c3
    have hb := decide_eq_true hs.1
    have hb2 := decide_eq_true hs.2
    clear hs
    go_enter Try.func3, Try.ntmps3
    go_wp2_with fail
    refine (zig_any _ _ (by omega) (by omega)).mono ?_; rintro e w' ⟨rfl, rfl⟩
    rw [show zigN 1 = 2 from rfl]
    go_wp2_with fail
    refine (zig_any _ _ (by omega) (by omega)).mono ?_; rintro e w' ⟨rfl, rfl⟩
    go_wp2_with fail
    refine (zig_any _ _ (by omega) (by omega)).mono ?_; rintro e w' ⟨rfl, rfl⟩
    go_wp2_with fail
    refine (zig_any _ _ (by omega) (by omega)).mono ?_; rintro e w' ⟨rfl, rfl⟩
    go_wp2_with fail
    refine (zig_any _ _ (by omega) (by omega)).mono ?_; rintro e w' ⟨rfl, rfl⟩
    go_wp2_with fail
    go_ret
    exact ⟨rfl, Below.refl _ _⟩
  · go_enter Try.func3, Try.ntmps3
    go_wp2_with fail
    refine (zig_any _ _ (by omega) (by omega)).mono ?_; rintro e w' ⟨rfl, rfl⟩
    rw [show zigN 1 = 2 from rfl]
    go_wp2_with fail
    all_goals first | omega | skip
    all_goals go_ret
    all_goals exact ⟨rfl, Below.refl _ _⟩


set_option maxHeartbeats 400000 in
theorem zigs_walk (v u : Int) (w : World) (h1 : -9223372036854775808 ≤ v) (h2 : v ≤ 9223372036854775807) (h3 : 0 ≤ u) (h4 : u < 18446744073709551616) :
    Calls Try.prog 4 #[.int .i64 v, .int .u64 u] w fun e w' => e = .returned (.bool true) ∧ Below w.heap.size w w' := by
  have e1 : (zagN (zigN v) == v) = true := by rw [zag_zig]; simp
  have e2 : (zigN (zagN u) == u) = true := by rw [zig_zag u h3]; simp
  have b1 := zig_bd v h1 h2
  have b2 := zag_bd u h3 h4
  go_enter Try.func4, Try.ntmps4
  go_wp2_with fail
  refine (zig_any _ _ (by omega) (by omega)).mono ?_; rintro e w' ⟨rfl, rfl⟩
  rw [show zigN (-2) = 3 from rfl]
  go_wp2_with fail
  refine (zag_any _ _ (by omega) (by omega)).mono ?_; rintro e w' ⟨rfl, rfl⟩
  rw [show zagN 3 = -2 from rfl]
  go_wp2_with fail
  refine (zig_any _ _ (by omega) (by omega)).mono ?_; rintro e w' ⟨rfl, rfl⟩
  go_wp2_with fail
  refine (rzig_any _ _ (by omega) (by omega)).mono ?_; rintro e w' ⟨rfl, rfl⟩
  go_wp2_with fail
  refine (zag_any _ _ (by omega) (by omega)).mono ?_; rintro e w' ⟨rfl, rfl⟩
  go_wp2_with fail
  refine (rzag_any _ _ (by omega) (by omega)).mono ?_; rintro e w' ⟨rfl, rfl⟩
  go_wp2_with fail
  refine (zig_any _ _ (by omega) (by omega)).mono ?_; rintro e w' ⟨rfl, rfl⟩
  go_wp2_with fail
  refine (zag_any _ _ (by omega) (by omega)).mono ?_; rintro e w' ⟨rfl, rfl⟩
  go_wp2_with fail
  refine (zag_any _ _ (by omega) (by omega)).mono ?_; rintro e w' ⟨rfl, rfl⟩
  go_wp2_with fail
  refine (zig_any _ _ (by omega) (by omega)).mono ?_; rintro e w' ⟨rfl, rfl⟩
  go_wp2_with fail
  go_ret
  exact ⟨rfl, Below.refl _ _⟩

end Go.Proofs.Ythejahoiodoalaa
