/-
  The walks of within, core, plain and of the five fits, at an event that holds a kind and an order's number alone. No condition.
-/
import Derived.Test.YtmlkapmaebakbaaSkin2
namespace Go.Proofs.Ytmlkapmaebakbaa
open Go.RowKit
set_option linter.unusedVariables false

theorem within_yes (x lo hi : Int) (w : World) (h1 : lo ≤ x) (h2 : x ≤ hi) : Calls Try.prog 35 #[.int .i64 x, .int .i64 lo, .int .i64 hi] w fun e w' => e = .returned (.bool true) ∧ w = w' := by
  go_enter Try.func35, Try.ntmps35
  go_wp2_with fail
  go_ret
  exact ⟨rfl, rfl⟩

theorem core_yes (k least dear : Int) (w : World) (h1 : least ≤ 0) (h2 : 0 ≤ dear) : Calls Try.prog 34 #[.agg #[.int .i64 k, .int .i64 1, .int .i64 0, .int .i64 0, .int .i64 0], .int .i64 least, .int .i64 dear] w fun e w' => e = .returned (.bool true) ∧ Below w.heap.size w w' := by
  go_enter Try.func34, Try.ntmps34
  go_wp2_with (go_at_call 35; refine (within_yes _ _ _ _ (by omega) (by omega)).mono ?_; rintro e w2 ⟨rfl, rfl⟩)
  go_ret
  exact ⟨rfl, below_made _ _⟩

theorem plain_none (w : World) : Calls Try.prog 41 #[.string ⟨#[]⟩] w fun e w' => e = .returned (.bool true) ∧ w = w' := by
  go_enter Try.func41, Try.ntmps41
  go_wp2_with fail
  go_loop [7] (fun iv => iv = .int .i64 0) (fun _ => 0)
  case atStart => rfl
  case round =>
    subst hrel
    go_wp2_with fail
    go_ret
    exact ⟨rfl, rfl⟩

theorem fits1 (k : Int) (w : World) : Calls Try.prog 32 #[.agg #[.int .i64 k, .int .i64 1, .int .i64 0, .int .i64 0, .int .i64 0]] w fun e w' => e = .returned (.bool true) ∧ Below w.heap.size w w' := by
  go_enter Try.func32, Try.ntmps32
  go_wp2_with fail
  (with_reducible refine (core_yes _ _ _ _ (by decide) (by decide)).mono ?_)
  rintro e w1 ⟨rfl, hb1⟩
  go_wp2_with fail
  go_ret
  exact ⟨rfl, below_next (below_made _ _) hb1⟩

theorem fits2 (k : Int) (w : World) : Calls Try.prog 36 #[.agg #[.int .i64 k, .int .i64 1, .int .i64 0, .int .i64 0, .int .i64 0, .int .i64 0]] w fun e w' => e = .returned (.bool true) ∧ Below w.heap.size w w' := by
  have h0 := heap_alloc_new w (.cells #[.int .i64 k, .int .i64 1, .int .i64 0, .int .i64 0, .int .i64 0, .int .i64 0] 28)
  go_enter Try.func36, Try.ntmps36
  go_wp2_with fail
  (with_reducible refine (core_yes _ _ _ _ (by decide) (by decide)).mono ?_)
  rintro e w1 ⟨rfl, hb1⟩
  have h1 := (hb1.block _ (by simp)).trans h0
  have q5 : w1.cell? ⟨w.heap.size, 5, none⟩ = some (.int .i64 0) := cell_blk h1 rfl
  clear h0 h1
  go_wp2_with (go_at_call 35; refine (within_yes _ _ _ _ (by omega) (by omega)).mono ?_; rintro e w2 ⟨rfl, rfl⟩)
  go_ret
  exact ⟨rfl, below_next (below_made _ _) hb1⟩

theorem fits3 (k : Int) (w : World) : Calls Try.prog 37 #[.agg #[.int .i64 k, .int .i64 1, .int .i64 0, .int .i64 0, .int .i64 0, .int .i64 0, .int .i64 0]] w fun e w' => e = .returned (.bool true) ∧ Below w.heap.size w w' := by
  have h0 := heap_alloc_new w (.cells #[.int .i64 k, .int .i64 1, .int .i64 0, .int .i64 0, .int .i64 0, .int .i64 0, .int .i64 0] 30)
  go_enter Try.func37, Try.ntmps37
  go_wp2_with fail
  (with_reducible refine (fits2 k _).mono ?_)
  rintro e w1 ⟨rfl, hb1⟩
  have h1 := (hb1.block _ (by simp)).trans h0
  have q3 : w1.cell? ⟨w.heap.size, 3, none⟩ = some (.int .i64 0) := cell_blk h1 rfl
  have q6 : w1.cell? ⟨w.heap.size, 6, none⟩ = some (.int .i64 0) := cell_blk h1 rfl
  clear h0 h1
  go_wp2_with (go_at_call 35; refine (within_yes _ _ _ _ (by omega) (by omega)).mono ?_; rintro e w2 ⟨rfl, rfl⟩)
  go_ret
  exact ⟨rfl, below_next (below_made _ _) hb1⟩

theorem fits4 (k : Int) (w : World) : Calls Try.prog 39 #[.agg #[.int .i64 k, .int .i64 1, .int .i64 0, .int .i64 0, .int .i64 0, .int .i64 0, .int .i64 0, .string ⟨#[]⟩]] w fun e w' => e = .returned (.bool true) ∧ Below w.heap.size w w' := by
  have h0 := heap_alloc_new w (.cells #[.int .i64 k, .int .i64 1, .int .i64 0, .int .i64 0, .int .i64 0, .int .i64 0, .int .i64 0, .string ⟨#[]⟩] 32)
  go_enter Try.func39, Try.ntmps39
  go_wp2_with fail
  (with_reducible refine (fits3 k _).mono ?_)
  rintro e w1 ⟨rfl, hb1⟩
  have h1 := (hb1.block _ (by simp)).trans h0
  have q7 : w1.cell? ⟨w.heap.size, 7, none⟩ = some (.string ⟨#[]⟩) := cell_blk h1 rfl
  clear h0 h1
  go_wp2_with (go_at_call 41; refine (plain_none _).mono ?_; rintro e w2 ⟨rfl, rfl⟩)
  go_ret
  exact ⟨rfl, below_next (below_made _ _) hb1⟩

theorem fits5 (k : Int) (w : World) : Calls Try.prog 42 #[.agg #[.int .i64 k, .int .i64 1, .int .i64 0, .int .i64 0, .int .i64 0, .int .i64 0, .int .i64 0, .string ⟨#[]⟩, .int .i64 0, .string ⟨#[]⟩]] w fun e w' => e = .returned (.bool true) ∧ Below w.heap.size w w' := by
  have h0 := heap_alloc_new w (.cells #[.int .i64 k, .int .i64 1, .int .i64 0, .int .i64 0, .int .i64 0, .int .i64 0, .int .i64 0, .string ⟨#[]⟩, .int .i64 0, .string ⟨#[]⟩] 34)
  go_enter Try.func42, Try.ntmps42
  go_wp2_with fail
  (with_reducible refine (fits4 k _).mono ?_)
  rintro e w1 ⟨rfl, hb1⟩
  have h1 := (hb1.block _ (by simp)).trans h0
  have q8 : w1.cell? ⟨w.heap.size, 8, none⟩ = some (.int .i64 0) := cell_blk h1 rfl
  clear h0 h1
  go_wp2_with (go_at_call 35; refine (within_yes _ _ _ _ (by omega) (by omega)).mono ?_; rintro e w2 ⟨rfl, rfl⟩)
  go_ret
  exact ⟨rfl, below_next (below_made _ _) hb1⟩
end Go.Proofs.Ytmlkapmaebakbaa
