/-
  The walks of typed and of Kinds. No condition.
-/
import Derived.Test.YtfiplongnnkhmaaMSty
import Derived.Laws.Rows
import Derived.WalkSpells
namespace Go.Proofs.Ytfiplongnnkhmaa
open Go.RowKit
set_option linter.unusedVariables false

/-- An event as one of a version; nil for a version that is none. -/
def typV (v : Int) (e : Ev) : Value :=
  if v = 1 then .iface 84 (.agg #[.int .i64 e.kind, .int .i64 e.order, .int .i64 e.item, .int .i64 e.qty, .int .i64 e.price])
  else if v = 2 then .iface 86 (.agg #[.int .i64 e.kind, .int .i64 e.order, .int .i64 e.item, .int .i64 e.qty, .int .i64 e.price, .int .i64 e.cur])
  else if v = 3 then .iface 88 (.agg #[.int .i64 e.kind, .int .i64 e.order, .int .i64 e.item, .int .i64 e.qty, .int .i64 e.price, .int .i64 e.cur, .int .i64 e.tax])
  else if v = 4 then .iface 90 (.agg #[.int .i64 e.kind, .int .i64 e.order, .int .i64 e.item, .int .i64 e.qty, .int .i64 e.price, .int .i64 e.cur, .int .i64 e.tax, .string e.who])
  else if v = 5 then .iface 92 (.agg #[.int .i64 e.kind, .int .i64 e.order, .int .i64 e.item, .int .i64 e.qty, .int .i64 e.price, .int .i64 e.cur, .int .i64 e.tax, .string e.who, .int .i64 e.stamp, .string e.note])
  else .nilIface

theorem typ_at (v : Int) (e : Ev) (w : World) (n : Int) (hn : v = n) (X : Value) (hX : typV v e = X) (h : Calls Try.prog 24 #[.int .i64 n, e.val] w fun x w' => x = .returned X ∧ Below w.heap.size w w') : Calls Try.prog 24 #[.int .i64 v, e.val] w fun x w' => x = .returned (typV v e) ∧ Below w.heap.size w w' := by
  subst hn hX; exact h

set_option maxHeartbeats 800000 in
theorem typed_any (v : Int) (e : Ev) (w : World) : Calls Try.prog 24 #[.int .i64 v, e.val] w fun x w' => x = .returned (typV v e) ∧ Below w.heap.size w w' := by
  have hl := fun (wx : World) => lift_any e wx
  unfold Ev.val Ev.cells at hl
  have HLF := Lib.hid hl
  clear hl
  by_cases h1 : v = 1
  · refine typ_at v e w 1 h1 _ (if_pos h1) ?_
    clear h1
    unfold Ev.val Ev.cells
    go_enter Try.func24, Try.ntmps24
    go_wp2_with fail
    (with_reducible refine (HLF.out _).mono ?_)
    rintro x w1 ⟨rfl, hb1⟩
    go_wp2_with fail
    go_ret
    exact ⟨rfl, below_next (below_next (below_made _ _) hb1) (below_made _ _)⟩
  · by_cases h2 : v = 2
    · refine typ_at v e w 2 h2 _ ((if_neg h1).trans (if_pos h2)) ?_
      clear h1 h2
      unfold Ev.val Ev.cells
      go_enter Try.func24, Try.ntmps24
      go_wp2_with fail
      (with_reducible refine (HLF.out _).mono ?_)
      rintro x w1 ⟨rfl, hb1⟩
      go_wp2_with fail
      go_ret
      exact ⟨rfl, below_next (below_next (below_made _ _) hb1) (below_made _ _)⟩
    · by_cases h3 : v = 3
      · refine typ_at v e w 3 h3 _ ((if_neg h1).trans ((if_neg h2).trans (if_pos h3))) ?_
        clear h1 h2 h3
        unfold Ev.val Ev.cells
        go_enter Try.func24, Try.ntmps24
        go_wp2_with fail
        (with_reducible refine (HLF.out _).mono ?_)
        rintro x w1 ⟨rfl, hb1⟩
        go_wp2_with fail
        go_ret
        exact ⟨rfl, below_next (below_next (below_made _ _) hb1) (below_made _ _)⟩
      · by_cases h4 : v = 4
        · refine typ_at v e w 4 h4 _ ((if_neg h1).trans ((if_neg h2).trans ((if_neg h3).trans (if_pos h4)))) ?_
          clear h1 h2 h3 h4
          unfold Ev.val Ev.cells
          go_enter Try.func24, Try.ntmps24
          go_wp2_with fail
          (with_reducible refine (HLF.out _).mono ?_)
          rintro x w1 ⟨rfl, hb1⟩
          go_wp2_with fail
          go_ret
          exact ⟨rfl, below_next (below_next (below_made _ _) hb1) (below_made _ _)⟩
        · by_cases h5 : v = 5
          · refine typ_at v e w 5 h5 _ ((if_neg h1).trans ((if_neg h2).trans ((if_neg h3).trans ((if_neg h4).trans (if_pos h5))))) ?_
            clear h1 h2 h3 h4 h5
            unfold Ev.val Ev.cells
            go_enter Try.func24, Try.ntmps24
            go_wp2_with fail
            (with_reducible refine (HLF.out _).mono ?_)
            rintro x w1 ⟨rfl, hb1⟩
            go_wp2_with fail
            go_ret
            exact ⟨rfl, below_next (below_next (below_made _ _) hb1) (below_made _ _)⟩
          · have HE : Hid (typV v e = .nilIface) := Lib.hid (by unfold typV; rw [if_neg h1, if_neg h2, if_neg h3, if_neg h4, if_neg h5])
            have b1 : (v == 1) = false := by simpa using h1
            have b2 : (v == 2) = false := by simpa using h2
            have b3 : (v == 3) = false := by simpa using h3
            have b4 : (v == 4) = false := by simpa using h4
            have b5 : (v == 5) = false := by simpa using h5
            clear h1 h2 h3 h4 h5
            rw [HE.out]
            unfold Ev.val Ev.cells
            go_enter Try.func24, Try.ntmps24
            go_wp2_with fail
            (with_reducible refine (HLF.out _).mono ?_)
            rintro x w1 ⟨rfl, hb1⟩
            go_wp2_with fail
            go_ret
            exact ⟨rfl, below_next (below_next (below_made _ _) hb1) (below_made _ _)⟩
end Go.Proofs.Ytfiplongnnkhmaa
