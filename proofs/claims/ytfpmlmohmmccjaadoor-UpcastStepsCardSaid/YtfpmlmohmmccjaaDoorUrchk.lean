/-
  The walks of the reference's Check at any event, printed by genrchk.py. No condition.
-/
import Derived.Test.YtfpmlmohmmccjaaDoorUref
import Derived.Deep.RegionHeld3
import Derived.Deep.QuietTactic
import Derived.BigQuiet
namespace Go.Proofs.YtfpmlmohmmccjaaDoor
open Go.RowKit
set_option linter.unusedVariables false

theorem rchk_none (v : Int) (k o i q p c t : Int) (u : ByteArray) (s : Int) (n : ByteArray) (w : World) (h : v < 1 ∨ 5 < v) : Calls Tryd.prog 18 #[.int .i64 v, .agg #[.int .i64 k, .int .i64 o, .int .i64 i, .int .i64 q, .int .i64 p, .int .i64 c, .int .i64 t, .string u, .int .i64 s, .string n]] w fun x w' => x = .returned (.int .i64 30) ∧ Below w.heap.size w w' := by
  have h' : v < 1 ∨ (¬ v < 1 ∧ 5 < v) := by omega
  clear h
  rcases h' with h | ⟨h, h2⟩
  all_goals
    go_enter Tryd.func18, Tryd.ntmps18
    go_wp2_with fail
    go_ret
    exact ⟨rfl, below_made _ _⟩

theorem rchk_low (v : Int) (k o i q p c t : Int) (u : ByteArray) (s : Int) (n : ByteArray) (w : World) (hv1 : 1 ≤ v) (hv5 : v ≤ 5) (hk : k < 1) : Calls Tryd.prog 18 #[.int .i64 v, .agg #[.int .i64 k, .int .i64 o, .int .i64 i, .int .i64 q, .int .i64 p, .int .i64 c, .int .i64 t, .string u, .int .i64 s, .string n]] w fun x w' => x = .returned (.int .i64 31) ∧ Below w.heap.size w w' := by
  have hd : decide (k < 1) = true := by simpa using hk
  have hb0 := below_made w (.cells #[.int .i64 k, .int .i64 o, .int .i64 i, .int .i64 q, .int .i64 p, .int .i64 c, .int .i64 t, .string u, .int .i64 s, .string n] 24)
  have h0 := heap_alloc_new w (.cells #[.int .i64 k, .int .i64 o, .int .i64 i, .int .i64 q, .int .i64 p, .int .i64 c, .int .i64 t, .string u, .int .i64 s, .string n] 24)
  have g0 : (w.alloc (.cells #[.int .i64 k, .int .i64 o, .int .i64 i, .int .i64 q, .int .i64 p, .int .i64 c, .int .i64 t, .string u, .int .i64 s, .string n] 24)).cell? ⟨w.heap.size, 0, none⟩ = some (.int .i64 k) := cell_blk h0 rfl
  have HLA := Lib.hid (fun wx => rlast_any v wx hv1 hv5)
  have hv1' : ¬ v < 1 := by omega
  have hv5' : ¬ 5 < v := by omega
  clear hv1 hv5
  go_enter Tryd.func18, Tryd.ntmps18
  go_wp2_with fail
  go_quiet (fail)
  go_wp2_with fail
  go_ret
  exact ⟨rfl, hb0.trans ((Still.one _ _).below _)⟩

theorem rchk_high (v : Int) (k o i q p c t : Int) (u : ByteArray) (s : Int) (n : ByteArray) (w : World) (hv1 : 1 ≤ v) (hv5 : v ≤ 5) (hk : lastK v < k) (hk1 : 1 ≤ k) : Calls Tryd.prog 18 #[.int .i64 v, .agg #[.int .i64 k, .int .i64 o, .int .i64 i, .int .i64 q, .int .i64 p, .int .i64 c, .int .i64 t, .string u, .int .i64 s, .string n]] w fun x w' => x = .returned (.int .i64 31) ∧ Below w.heap.size w w' := by
  have hd : decide (k < 1) = false := by simp; omega
  have hd2 : decide (lastK v < k) = true := by simpa using hk
  have hb0 := below_made w (.cells #[.int .i64 k, .int .i64 o, .int .i64 i, .int .i64 q, .int .i64 p, .int .i64 c, .int .i64 t, .string u, .int .i64 s, .string n] 24)
  have h0 := heap_alloc_new w (.cells #[.int .i64 k, .int .i64 o, .int .i64 i, .int .i64 q, .int .i64 p, .int .i64 c, .int .i64 t, .string u, .int .i64 s, .string n] 24)
  have g0 : (w.alloc (.cells #[.int .i64 k, .int .i64 o, .int .i64 i, .int .i64 q, .int .i64 p, .int .i64 c, .int .i64 t, .string u, .int .i64 s, .string n] 24)).cell? ⟨w.heap.size, 0, none⟩ = some (.int .i64 k) := cell_blk h0 rfl
  have HLA := Lib.hid (fun wx => rlast_any v wx hv1 hv5)
  have hv1' : ¬ v < 1 := by omega
  have hv5' : ¬ 5 < v := by omega
  clear hv1 hv5
  go_enter Tryd.func18, Tryd.ntmps18
  go_wp2_with fail
  have hac : Below w.heap.size w (w.alloc (.cells #[.int .i64 k, .int .i64 o, .int .i64 i, .int .i64 q, .int .i64 p, .int .i64 c, .int .i64 t, .string u, .int .i64 s, .string n] 24)).drew := hb0.trans ((Still.one _ 1).below _)
  have hEc : (w.alloc (.cells #[.int .i64 k, .int .i64 o, .int .i64 i, .int .i64 q, .int .i64 p, .int .i64 c, .int .i64 t, .string u, .int .i64 s, .string n] 24)).drew.heap[w.heap.size]? = some (.cells #[.int .i64 k, .int .i64 o, .int .i64 i, .int .i64 q, .int .i64 p, .int .i64 c, .int .i64 t, .string u, .int .i64 s, .string n] 24) := h0
  obtain ⟨wa, hwa⟩ : ∃ wa, w.alloc (.cells #[.int .i64 k, .int .i64 o, .int .i64 i, .int .i64 q, .int .i64 p, .int .i64 c, .int .i64 t, .string u, .int .i64 s, .string n] 24) = wa := ⟨_, rfl⟩
  rw [hwa] at g0 hac hEc ⊢
  clear hwa h0 hb0
  go_region_held3 (fun w' => w'.cell? ⟨w.heap.size, 0, none⟩ = some (.int .i64 k))
    (first
      | go_keep
      | exact below_cell hbc (by assumption))
    (first
      | (go_at_call 22; refine (HLA.out _).mono ?_; rintro e wc ⟨rfl, hbc⟩; have hac := below_next hac hbc; have hEc := below_blk hbc hEc))
  go_wp2_with fail
  go_ret
  exact ⟨rfl, hac⟩

theorem rchk_big (v : Int) (k o i q p c t : Int) (u : ByteArray) (s : Int) (n : ByteArray) (w : World) (hv1 : 1 ≤ v) (hv5 : v ≤ 5) (hk : k ≤ lastK v) (hk1 : 1 ≤ k) (hs : 16 < u.size ∨ 120 < n.size) : Calls Tryd.prog 18 #[.int .i64 v, .agg #[.int .i64 k, .int .i64 o, .int .i64 i, .int .i64 q, .int .i64 p, .int .i64 c, .int .i64 t, .string u, .int .i64 s, .string n]] w fun x w' => x = .returned (.int .i64 24) ∧ Below w.heap.size w w' := by
  have hd : decide (k < 1) = false := by simp; omega
  have hd2 : decide (lastK v < k) = false := by simp; omega
  have hs2 : 16 < (u.size : Int) ∨ (¬ 16 < (u.size : Int) ∧ 120 < (n.size : Int)) := by omega
  clear hs
  rcases hs2 with hu | ⟨hu, hn⟩
  all_goals
    have hb0 := below_made w (.cells #[.int .i64 k, .int .i64 o, .int .i64 i, .int .i64 q, .int .i64 p, .int .i64 c, .int .i64 t, .string u, .int .i64 s, .string n] 24)
    have h0 := heap_alloc_new w (.cells #[.int .i64 k, .int .i64 o, .int .i64 i, .int .i64 q, .int .i64 p, .int .i64 c, .int .i64 t, .string u, .int .i64 s, .string n] 24)
    have g0 : (w.alloc (.cells #[.int .i64 k, .int .i64 o, .int .i64 i, .int .i64 q, .int .i64 p, .int .i64 c, .int .i64 t, .string u, .int .i64 s, .string n] 24)).cell? ⟨w.heap.size, 0, none⟩ = some (.int .i64 k) := cell_blk h0 rfl
    have HLA := Lib.hid (fun wx => rlast_any v wx hv1 hv5)
    have hv1' : ¬ v < 1 := by omega
    have hv5' : ¬ 5 < v := by omega
    clear hv1 hv5
    go_enter Tryd.func18, Tryd.ntmps18
    go_wp2_with fail
    have hac : Below w.heap.size w (w.alloc (.cells #[.int .i64 k, .int .i64 o, .int .i64 i, .int .i64 q, .int .i64 p, .int .i64 c, .int .i64 t, .string u, .int .i64 s, .string n] 24)).drew := hb0.trans ((Still.one _ 1).below _)
    have hEc : (w.alloc (.cells #[.int .i64 k, .int .i64 o, .int .i64 i, .int .i64 q, .int .i64 p, .int .i64 c, .int .i64 t, .string u, .int .i64 s, .string n] 24)).drew.heap[w.heap.size]? = some (.cells #[.int .i64 k, .int .i64 o, .int .i64 i, .int .i64 q, .int .i64 p, .int .i64 c, .int .i64 t, .string u, .int .i64 s, .string n] 24) := h0
    obtain ⟨wa, hwa⟩ : ∃ wa, w.alloc (.cells #[.int .i64 k, .int .i64 o, .int .i64 i, .int .i64 q, .int .i64 p, .int .i64 c, .int .i64 t, .string u, .int .i64 s, .string n] 24) = wa := ⟨_, rfl⟩
    rw [hwa] at g0 hac hEc ⊢
    clear hwa h0 hb0
    go_region_held3 (fun w' => w'.cell? ⟨w.heap.size, 0, none⟩ = some (.int .i64 k))
      (first
        | go_keep
        | exact below_cell hbc (by assumption))
      (first
        | (go_at_call 22; refine (HLA.out _).mono ?_; rintro e wc ⟨rfl, hbc⟩; have hac := below_next hac hbc; have hEc := below_blk hbc hEc))
    clear g0
    obtain ⟨g0, g1, g2, g3, g4, g5, g6, g7, g8, g9⟩ := evAt hEc
    go_wp2_with fail
    go_ret
    exact ⟨rfl, hac⟩

end Go.Proofs.YtfpmlmohmmccjaaDoor
