/-
  The walks of Check at an event that holds a kind and an order's number alone, version by version, printed by genkinds.py. No condition.
-/
import Derived.Test.YtmlkapmaebakbaaSfits
import Derived.Test.YtmlkapmaebakbaaSev
import Derived.Deep.RegionHeld3
import Derived.Deep.QuietTactic
import Derived.BigQuiet
namespace Go.Proofs.Ytmlkapmaebakbaa
open Go.RowKit
set_option linter.unusedVariables false

theorem kmet3 (k : Int) (w : World) : (method 179 30 (.agg #[.int .i64 k, .int .i64 1, .int .i64 0, .int .i64 0, .int .i64 0, .int .i64 0, .int .i64 0]) "daybook/schema.last").run Try.prog w = .ok (38, .agg #[.int .i64 k, .int .i64 1, .int .i64 0, .int .i64 0, .int .i64 0, .int .i64 0, .int .i64 0]) w := by kernel_rfl
theorem fmet3 (k : Int) (w : World) : (method 179 30 (.agg #[.int .i64 k, .int .i64 1, .int .i64 0, .int .i64 0, .int .i64 0, .int .i64 0, .int .i64 0]) "daybook/schema.fits").run Try.prog w = .ok (37, .agg #[.int .i64 k, .int .i64 1, .int .i64 0, .int .i64 0, .int .i64 0, .int .i64 0, .int .i64 0]) w := by kernel_rfl
theorem emet3 (k : Int) (w : World) : (method 179 30 (.agg #[.int .i64 k, .int .i64 1, .int .i64 0, .int .i64 0, .int .i64 0, .int .i64 0, .int .i64 0]) "Event").run Try.prog w = .ok (10, .agg #[.int .i64 k, .int .i64 1, .int .i64 0, .int .i64 0, .int .i64 0, .int .i64 0, .int .i64 0]) w := by kernel_rfl
theorem klast3 (k : Int) (w : World) : Calls Try.prog 38 #[.agg #[.int .i64 k, .int .i64 1, .int .i64 0, .int .i64 0, .int .i64 0, .int .i64 0, .int .i64 0]] w fun x w' => x = .returned (.int .i64 7) ∧ Below w.heap.size w w' := by
  go_enter Try.func38, Try.ntmps38
  go_wp2_with fail
  go_ret
  exact ⟨rfl, below_made _ _⟩

set_option maxHeartbeats 3200000 in
theorem chk3_low (k : Int) (w : World) (hk : k < 1) : Calls Try.prog 15 #[.int .i64 3, .agg #[.int .i64 k, .int .i64 1, .int .i64 0, .int .i64 0, .int .i64 0, .int .i64 0, .int .i64 0, .string ⟨#[]⟩, .int .i64 0, .string ⟨#[]⟩]] w fun x w' => x = .returned (.int .i64 31) ∧ Below w.heap.size w w' := by
  have hd : decide (k < 1) = true := by simpa using hk
  have ht := fun wx => typed_any 3 ⟨k, 1, 0, 0, 0, 0, 0, ⟨#[]⟩, 0, ⟨#[]⟩⟩ wx
  unfold Ev.val Ev.cells typV at ht
  simp only [if_true, Int.reduceEq, if_false] at ht
  have HT := Lib.hid ht
  clear ht
  have hb0 := below_made w (.cells #[.int .i64 k, .int .i64 1, .int .i64 0, .int .i64 0, .int .i64 0, .int .i64 0, .int .i64 0, .string ⟨#[]⟩, .int .i64 0, .string ⟨#[]⟩] 24)
  have h0 := heap_alloc_new w (.cells #[.int .i64 k, .int .i64 1, .int .i64 0, .int .i64 0, .int .i64 0, .int .i64 0, .int .i64 0, .string ⟨#[]⟩, .int .i64 0, .string ⟨#[]⟩] 24)
  have hm := kmet3 k
  have hmf := fmet3 k
  have hme := emet3 k
  go_enter Try.func15, Try.ntmps15
  go_wp2_with fail
  (with_reducible refine (HT.out _).mono ?_)
  rintro x w1 ⟨rfl, hb1⟩
  have h1 := (hb1.block _ (by simp)).trans h0
  have hacc := below_next hb0 hb1
  obtain ⟨g0, g1, g2, g3, g4, g5, g6, g7, g8, g9⟩ := evAt h1
  clear h0 hb0 hb1 HT
  go_wp2_with fail
  go_quiet (fail)
  go_wp2_with fail
  go_ret
  exact ⟨rfl, hacc.trans ((Still.one _ _).below _)⟩

set_option maxHeartbeats 3200000 in
theorem chk3_high (k : Int) (w : World) (hk : 7 < k) : Calls Try.prog 15 #[.int .i64 3, .agg #[.int .i64 k, .int .i64 1, .int .i64 0, .int .i64 0, .int .i64 0, .int .i64 0, .int .i64 0, .string ⟨#[]⟩, .int .i64 0, .string ⟨#[]⟩]] w fun x w' => x = .returned (.int .i64 31) ∧ Below w.heap.size w w' := by
  have hd : decide (k < 1) = false := by simp; omega
  have hd2 : decide (7 < k) = true := by simpa using hk
  have ht := fun wx => typed_any 3 ⟨k, 1, 0, 0, 0, 0, 0, ⟨#[]⟩, 0, ⟨#[]⟩⟩ wx
  unfold Ev.val Ev.cells typV at ht
  simp only [if_true, Int.reduceEq, if_false] at ht
  have HT := Lib.hid ht
  clear ht
  have hb0 := below_made w (.cells #[.int .i64 k, .int .i64 1, .int .i64 0, .int .i64 0, .int .i64 0, .int .i64 0, .int .i64 0, .string ⟨#[]⟩, .int .i64 0, .string ⟨#[]⟩] 24)
  have h0 := heap_alloc_new w (.cells #[.int .i64 k, .int .i64 1, .int .i64 0, .int .i64 0, .int .i64 0, .int .i64 0, .int .i64 0, .string ⟨#[]⟩, .int .i64 0, .string ⟨#[]⟩] 24)
  have hm := kmet3 k
  have hmf := fmet3 k
  have hme := emet3 k
  go_enter Try.func15, Try.ntmps15
  go_wp2_with fail
  (with_reducible refine (HT.out _).mono ?_)
  rintro x w1 ⟨rfl, hb1⟩
  have h1 := (hb1.block _ (by simp)).trans h0
  have hacc := below_next hb0 hb1
  obtain ⟨g0, g1, g2, g3, g4, g5, g6, g7, g8, g9⟩ := evAt h1
  clear h0 hb0 hb1 HT
  go_wp2_with fail
  have hac : Below w.heap.size w w1.drew := hacc.trans ((Still.one w1 1).below _)
  go_region_held3 (fun w' => w'.cell? ⟨w.heap.size, 0, none⟩ = some (.int .i64 k))
    (first
      | go_keep
      | exact below_cell hbc (by assumption))
    (first
      | (go_at_call 38; refine (klast3 k _).mono ?_; rintro e wc ⟨rfl, hbc⟩; have hac := below_next hac hbc))
  go_wp2_with fail
  go_ret
  exact ⟨rfl, hac⟩

set_option maxHeartbeats 3200000 in
theorem chk3_ok (k : Int) (w : World) (hk1 : 1 ≤ k) (hk2 : k ≤ 7) : Calls Try.prog 15 #[.int .i64 3, .agg #[.int .i64 k, .int .i64 1, .int .i64 0, .int .i64 0, .int .i64 0, .int .i64 0, .int .i64 0, .string ⟨#[]⟩, .int .i64 0, .string ⟨#[]⟩]] w fun x w' => x = .returned (.int .i64 0) ∧ Below w.heap.size w w' := by
  have hd : decide (k < 1) = false := by simp; omega
  have hd2 : decide (7 < k) = false := by simp; omega
  have hev := fun wx => ev3_any k 1 0 0 0 0 0 wx
  unfold Ev.val Ev.cells at hev
  have HEV := Lib.hid hev
  clear hev
  have ht := fun wx => typed_any 3 ⟨k, 1, 0, 0, 0, 0, 0, ⟨#[]⟩, 0, ⟨#[]⟩⟩ wx
  unfold Ev.val Ev.cells typV at ht
  simp only [if_true, Int.reduceEq, if_false] at ht
  have HT := Lib.hid ht
  clear ht
  have hb0 := below_made w (.cells #[.int .i64 k, .int .i64 1, .int .i64 0, .int .i64 0, .int .i64 0, .int .i64 0, .int .i64 0, .string ⟨#[]⟩, .int .i64 0, .string ⟨#[]⟩] 24)
  have h0 := heap_alloc_new w (.cells #[.int .i64 k, .int .i64 1, .int .i64 0, .int .i64 0, .int .i64 0, .int .i64 0, .int .i64 0, .string ⟨#[]⟩, .int .i64 0, .string ⟨#[]⟩] 24)
  have hm := kmet3 k
  have hmf := fmet3 k
  have hme := emet3 k
  go_enter Try.func15, Try.ntmps15
  go_wp2_with fail
  (with_reducible refine (HT.out _).mono ?_)
  rintro x w1 ⟨rfl, hb1⟩
  have h1 := (hb1.block _ (by simp)).trans h0
  have hacc := below_next hb0 hb1
  obtain ⟨g0, g1, g2, g3, g4, g5, g6, g7, g8, g9⟩ := evAt h1
  clear h0 hb0 hb1 HT
  go_wp2_with fail
  have hac : Below w.heap.size w w1.drew := hacc.trans ((Still.one w1 1).below _)
  have hEc : w1.drew.heap[w.heap.size]? = some (.cells #[.int .i64 k, .int .i64 1, .int .i64 0, .int .i64 0, .int .i64 0, .int .i64 0, .int .i64 0, .string ⟨#[]⟩, .int .i64 0, .string ⟨#[]⟩] 24) := h1
  go_region_held3 (fun w' => w'.cell? ⟨w.heap.size, 0, none⟩ = some (.int .i64 k))
    (first
      | go_keep
      | exact below_cell hbc (by assumption))
    (first
      | (go_at_call 38; refine (klast3 k _).mono ?_; rintro e wc ⟨rfl, hbc⟩; have hac := below_next hac hbc; have hEc := below_blk hbc hEc))
  clear g0 g1 g2 g3 g4 g5 g6 g7 g8 g9 h1 hacc
  obtain ⟨g0, g1, g2, g3, g4, g5, g6, g7, g8, g9⟩ := evAt hEc
  go_wp2_with fail
  have had : Below w.heap.size w wc.drew := hac.trans ((Still.one wc 1).below _)
  go_region_held3 (fun w' => w'.cell? ⟨w.heap.size, 0, none⟩ = some (.int .i64 k) ∧ w'.cell? ⟨w.heap.size, 1, none⟩ = some (.int .i64 1) ∧ w'.cell? ⟨w.heap.size, 2, none⟩ = some (.int .i64 0) ∧ w'.cell? ⟨w.heap.size, 3, none⟩ = some (.int .i64 0) ∧ w'.cell? ⟨w.heap.size, 4, none⟩ = some (.int .i64 0) ∧ w'.cell? ⟨w.heap.size, 5, none⟩ = some (.int .i64 0) ∧ w'.cell? ⟨w.heap.size, 6, none⟩ = some (.int .i64 0) ∧ w'.cell? ⟨w.heap.size, 7, none⟩ = some (.string ⟨#[]⟩) ∧ w'.cell? ⟨w.heap.size, 8, none⟩ = some (.int .i64 0) ∧ w'.cell? ⟨w.heap.size, 9, none⟩ = some (.string ⟨#[]⟩))
    (first
      | go_keep
      | (go_split_ands
         exact ⟨below_cell hbd (by assumption), below_cell hbd (by assumption), below_cell hbd (by assumption), below_cell hbd (by assumption), below_cell hbd (by assumption), below_cell hbd (by assumption), below_cell hbd (by assumption), below_cell hbd (by assumption), below_cell hbd (by assumption), below_cell hbd (by assumption)⟩))
    (first
      | (go_at_call 37; refine (fits3 k _).mono ?_; rintro e wd ⟨rfl, hbd⟩; have had := below_next had hbd)
      | (go_at_call 10; refine (HEV.out _).mono ?_; rintro e wd ⟨rfl, hbd⟩; have had := below_next had hbd))
  go_wp2_with fail
  go_ret
  exact ⟨rfl, had⟩

end Go.Proofs.Ytmlkapmaebakbaa
