/-
  The walks of the Event of versions 2 to 5, printed by gentyped.py. No condition.
-/
import Derived.Test.YtfpmlmohmmccjaaDoorStyped
namespace Go.Proofs.YtfpmlmohmmccjaaDoor
open Go.RowKit
set_option linter.unusedVariables false

theorem info_ev : (Tryd.prog.info? 24).map (·.size) = some 10 := by kernel_rfl
theorem ret_ev {fn : Func} {p : Tmp} {cs : Array Value} {tmps : Array Value} {w : World} {g : Nat} {e : TypeId} (h : fn.results = #[.cell p 24]) (hp : tmps.getD p undef = .pointer (some ⟨g, 0, none⟩)) (hg : w.heap[g]? = some (.cells cs e (0, 0))) (hs : cs.size = 10) :
    (results fn tmps).run Tryd.prog w = .ok (.agg cs) w :=
  results_cell_row h tmps w g e cs (0, 0) _ hp hg Tryd.underlying24 rfl (by rw [hs]; exact info_ev)
theorem below_row {B g : Nat} {w0 w : World} (hb : Below B w0 w) (hBg : B ≤ g) (cs : Array Value) : Below B w0 (w.setRow g cs) :=
  hb.trans ⟨rfl, rfl, rfl, by simp, fun k hk => setRow_other w g k _ (by omega)⟩


set_option maxHeartbeats 800000 in
theorem ev2_any (k : Int) (o : Int) (i : Int) (q : Int) (p : Int) (c : Int) (w : World) : Calls Tryd.prog 48 #[.agg #[.int .i64 k, .int .i64 o, .int .i64 i, .int .i64 q, .int .i64 p, .int .i64 c]] w fun x w' => x = .returned (Ev.val ⟨k, o, i, q, p, c, 0, ⟨#[]⟩, 0, ⟨#[]⟩⟩) ∧ Below w.heap.size w w' := by
  have hb0 : Below w.heap.size w ((w.alloc (.cells #[.int .i64 k, .int .i64 o, .int .i64 i, .int .i64 q, .int .i64 p, .int .i64 c] 53)).alloc (.cells #[.int .i64 0, .int .i64 0, .int .i64 0, .int .i64 0, .int .i64 0, .int .i64 0, .int .i64 0, .string ⟨#[]⟩, .int .i64 0, .string ⟨#[]⟩] 24)) := below_next (below_made _ _) (below_made _ _)
  have h0 : ((w.alloc (.cells #[.int .i64 k, .int .i64 o, .int .i64 i, .int .i64 q, .int .i64 p, .int .i64 c] 53)).alloc (.cells #[.int .i64 0, .int .i64 0, .int .i64 0, .int .i64 0, .int .i64 0, .int .i64 0, .int .i64 0, .string ⟨#[]⟩, .int .i64 0, .string ⟨#[]⟩] 24)).heap[w.heap.size + 1]? = some (.cells #[.int .i64 0, .int .i64 0, .int .i64 0, .int .i64 0, .int .i64 0, .int .i64 0, .int .i64 0, .string ⟨#[]⟩, .int .i64 0, .string ⟨#[]⟩] 24) := by
    have := heap_alloc_new (w.alloc (.cells #[.int .i64 k, .int .i64 o, .int .i64 i, .int .i64 q, .int .i64 p, .int .i64 c] 53)) (.cells #[.int .i64 0, .int .i64 0, .int .i64 0, .int .i64 0, .int .i64 0, .int .i64 0, .int .i64 0, .string ⟨#[]⟩, .int .i64 0, .string ⟨#[]⟩] 24)
    simpa using this
  have hz0 : ((w.alloc (.cells #[.int .i64 k, .int .i64 o, .int .i64 i, .int .i64 q, .int .i64 p, .int .i64 c] 53)).alloc (.cells #[.int .i64 0, .int .i64 0, .int .i64 0, .int .i64 0, .int .i64 0, .int .i64 0, .int .i64 0, .string ⟨#[]⟩, .int .i64 0, .string ⟨#[]⟩] 24)).heap.size = w.heap.size + 2 := by simp
  go_enter Tryd.func48, Tryd.ntmps48
  go_wp2_with fail
  (with_reducible refine (ev1_any _ _ _ _ _ _).mono ?_)
  rintro x w1 ⟨rfl, hb1⟩
  unfold Ev.val Ev.cells
  have hv1 : w1.heap[w.heap.size]? = some (.cells #[.int .i64 k, .int .i64 o, .int .i64 i, .int .i64 q, .int .i64 p, .int .i64 c] 53) := (hb1.block _ (by omega)).trans (by rw [Below.heap_alloc _ _ _ (by simp)]; exact heap_alloc_new w _)
  have hzv : w.heap.size < w1.heap.size := by have := hb1.size; omega
  have hv_5 : ∀ o, (w1.alloc o).cell? ⟨w.heap.size, 5, none⟩ = some (.int .i64 c) := fun o => (World.cell?_of_block (Below.heap_alloc w1 o _ hzv)).trans (cell_blk hv1 rfl)
  go_upto_region 3 with (fail)
  have h1 := (hb1.block _ (by omega)).trans h0
  have hz1 : w.heap.size + 2 ≤ w1.heap.size := by have := hb1.size; omega
  have hbm := below_made w1 (.cells #[.int .i64 k, .int .i64 o, .int .i64 i, .int .i64 q, .int .i64 p, .int .i64 c, .int .i64 0, .string ⟨#[]⟩, .int .i64 0, .string ⟨#[]⟩] 24)
  have hf := heap_alloc_new w1 (.cells #[.int .i64 k, .int .i64 o, .int .i64 i, .int .i64 q, .int .i64 p, .int .i64 c, .int .i64 0, .string ⟨#[]⟩, .int .i64 0, .string ⟨#[]⟩] 24)
  have h2 := (hbm.block _ (by omega)).trans h1
  have hb2 := below_next (below_next hb0 hb1) hbm
  obtain ⟨wm, hwm⟩ : ∃ wm, w1.alloc (.cells #[.int .i64 k, .int .i64 o, .int .i64 i, .int .i64 q, .int .i64 p, .int .i64 c, .int .i64 0, .string ⟨#[]⟩, .int .i64 0, .string ⟨#[]⟩] 24) = wm := ⟨_, rfl⟩
  rw [hwm] at hf h2 hb2 ⊢
  clear hwm hbm h1 hb1 hb0 h0 hz0 hv1 hv_5
  have hg := setRow_heap wm (w.heap.size + 1) _ #[.int .i64 k, .int .i64 o, .int .i64 i, .int .i64 q, .int .i64 p, .int .i64 c, .int .i64 0, .string ⟨#[]⟩, .int .i64 0, .string ⟨#[]⟩] _ _ h2
  have hbs := below_row hb2 (Nat.le_succ _) #[.int .i64 k, .int .i64 o, .int .i64 i, .int .i64 q, .int .i64 p, .int .i64 c, .int .i64 0, .string ⟨#[]⟩, .int .i64 0, .string ⟨#[]⟩]
  go_wp2_with (first
    | (with_reducible refine wpList_load_row rfl 24 (.tmp 3) rfl w1.heap.size rfl _ #[.int .i64 k, .int .i64 o, .int .i64 i, .int .i64 q, .int .i64 p, .int .i64 c, .int .i64 0, .string ⟨#[]⟩, .int .i64 0, .string ⟨#[]⟩] (0, 0) _ hf Tryd.underlying24 rfl (by with_unfolding_all exact info_ev) ?_)
    | (with_reducible refine wpList_store_row rfl 24 (.tmp 2) (.tmp 10) rfl (w.heap.size + 1) #[.int .i64 k, .int .i64 o, .int .i64 i, .int .i64 q, .int .i64 p, .int .i64 c, .int .i64 0, .string ⟨#[]⟩, .int .i64 0, .string ⟨#[]⟩] rfl rfl _ _ h2 (by with_unfolding_all exact info_ev) (by with_unfolding_all exact rfl) (by with_unfolding_all exact rfl) ?_))
  exact bodyPost_ret (v := Ev.val ⟨k, o, i, q, p, c, 0, ⟨#[]⟩, 0, ⟨#[]⟩⟩) (ret_ev rfl rfl hg rfl) rfl ⟨rfl, hbs⟩

set_option maxHeartbeats 800000 in
theorem ev3_any (k : Int) (o : Int) (i : Int) (q : Int) (p : Int) (c : Int) (t : Int) (w : World) : Calls Tryd.prog 51 #[.agg #[.int .i64 k, .int .i64 o, .int .i64 i, .int .i64 q, .int .i64 p, .int .i64 c, .int .i64 t]] w fun x w' => x = .returned (Ev.val ⟨k, o, i, q, p, c, t, ⟨#[]⟩, 0, ⟨#[]⟩⟩) ∧ Below w.heap.size w w' := by
  have hb0 : Below w.heap.size w ((w.alloc (.cells #[.int .i64 k, .int .i64 o, .int .i64 i, .int .i64 q, .int .i64 p, .int .i64 c, .int .i64 t] 55)).alloc (.cells #[.int .i64 0, .int .i64 0, .int .i64 0, .int .i64 0, .int .i64 0, .int .i64 0, .int .i64 0, .string ⟨#[]⟩, .int .i64 0, .string ⟨#[]⟩] 24)) := below_next (below_made _ _) (below_made _ _)
  have h0 : ((w.alloc (.cells #[.int .i64 k, .int .i64 o, .int .i64 i, .int .i64 q, .int .i64 p, .int .i64 c, .int .i64 t] 55)).alloc (.cells #[.int .i64 0, .int .i64 0, .int .i64 0, .int .i64 0, .int .i64 0, .int .i64 0, .int .i64 0, .string ⟨#[]⟩, .int .i64 0, .string ⟨#[]⟩] 24)).heap[w.heap.size + 1]? = some (.cells #[.int .i64 0, .int .i64 0, .int .i64 0, .int .i64 0, .int .i64 0, .int .i64 0, .int .i64 0, .string ⟨#[]⟩, .int .i64 0, .string ⟨#[]⟩] 24) := by
    have := heap_alloc_new (w.alloc (.cells #[.int .i64 k, .int .i64 o, .int .i64 i, .int .i64 q, .int .i64 p, .int .i64 c, .int .i64 t] 55)) (.cells #[.int .i64 0, .int .i64 0, .int .i64 0, .int .i64 0, .int .i64 0, .int .i64 0, .int .i64 0, .string ⟨#[]⟩, .int .i64 0, .string ⟨#[]⟩] 24)
    simpa using this
  have hz0 : ((w.alloc (.cells #[.int .i64 k, .int .i64 o, .int .i64 i, .int .i64 q, .int .i64 p, .int .i64 c, .int .i64 t] 55)).alloc (.cells #[.int .i64 0, .int .i64 0, .int .i64 0, .int .i64 0, .int .i64 0, .int .i64 0, .int .i64 0, .string ⟨#[]⟩, .int .i64 0, .string ⟨#[]⟩] 24)).heap.size = w.heap.size + 2 := by simp
  go_enter Tryd.func51, Tryd.ntmps51
  go_wp2_with fail
  (with_reducible refine (ev2_any _ _ _ _ _ _ _).mono ?_)
  rintro x w1 ⟨rfl, hb1⟩
  unfold Ev.val Ev.cells
  have hv1 : w1.heap[w.heap.size]? = some (.cells #[.int .i64 k, .int .i64 o, .int .i64 i, .int .i64 q, .int .i64 p, .int .i64 c, .int .i64 t] 55) := (hb1.block _ (by omega)).trans (by rw [Below.heap_alloc _ _ _ (by simp)]; exact heap_alloc_new w _)
  have hzv : w.heap.size < w1.heap.size := by have := hb1.size; omega
  have hv_6 : ∀ o, (w1.alloc o).cell? ⟨w.heap.size, 6, none⟩ = some (.int .i64 t) := fun o => (World.cell?_of_block (Below.heap_alloc w1 o _ hzv)).trans (cell_blk hv1 rfl)
  go_upto_region 3 with (fail)
  have h1 := (hb1.block _ (by omega)).trans h0
  have hz1 : w.heap.size + 2 ≤ w1.heap.size := by have := hb1.size; omega
  have hbm := below_made w1 (.cells #[.int .i64 k, .int .i64 o, .int .i64 i, .int .i64 q, .int .i64 p, .int .i64 c, .int .i64 t, .string ⟨#[]⟩, .int .i64 0, .string ⟨#[]⟩] 24)
  have hf := heap_alloc_new w1 (.cells #[.int .i64 k, .int .i64 o, .int .i64 i, .int .i64 q, .int .i64 p, .int .i64 c, .int .i64 t, .string ⟨#[]⟩, .int .i64 0, .string ⟨#[]⟩] 24)
  have h2 := (hbm.block _ (by omega)).trans h1
  have hb2 := below_next (below_next hb0 hb1) hbm
  obtain ⟨wm, hwm⟩ : ∃ wm, w1.alloc (.cells #[.int .i64 k, .int .i64 o, .int .i64 i, .int .i64 q, .int .i64 p, .int .i64 c, .int .i64 t, .string ⟨#[]⟩, .int .i64 0, .string ⟨#[]⟩] 24) = wm := ⟨_, rfl⟩
  rw [hwm] at hf h2 hb2 ⊢
  clear hwm hbm h1 hb1 hb0 h0 hz0 hv1 hv_6
  have hg := setRow_heap wm (w.heap.size + 1) _ #[.int .i64 k, .int .i64 o, .int .i64 i, .int .i64 q, .int .i64 p, .int .i64 c, .int .i64 t, .string ⟨#[]⟩, .int .i64 0, .string ⟨#[]⟩] _ _ h2
  have hbs := below_row hb2 (Nat.le_succ _) #[.int .i64 k, .int .i64 o, .int .i64 i, .int .i64 q, .int .i64 p, .int .i64 c, .int .i64 t, .string ⟨#[]⟩, .int .i64 0, .string ⟨#[]⟩]
  go_wp2_with (first
    | (with_reducible refine wpList_load_row rfl 24 (.tmp 3) rfl w1.heap.size rfl _ #[.int .i64 k, .int .i64 o, .int .i64 i, .int .i64 q, .int .i64 p, .int .i64 c, .int .i64 t, .string ⟨#[]⟩, .int .i64 0, .string ⟨#[]⟩] (0, 0) _ hf Tryd.underlying24 rfl (by with_unfolding_all exact info_ev) ?_)
    | (with_reducible refine wpList_store_row rfl 24 (.tmp 2) (.tmp 10) rfl (w.heap.size + 1) #[.int .i64 k, .int .i64 o, .int .i64 i, .int .i64 q, .int .i64 p, .int .i64 c, .int .i64 t, .string ⟨#[]⟩, .int .i64 0, .string ⟨#[]⟩] rfl rfl _ _ h2 (by with_unfolding_all exact info_ev) (by with_unfolding_all exact rfl) (by with_unfolding_all exact rfl) ?_))
  exact bodyPost_ret (v := Ev.val ⟨k, o, i, q, p, c, t, ⟨#[]⟩, 0, ⟨#[]⟩⟩) (ret_ev rfl rfl hg rfl) rfl ⟨rfl, hbs⟩

set_option maxHeartbeats 800000 in
theorem ev4_any (k : Int) (o : Int) (i : Int) (q : Int) (p : Int) (c : Int) (t : Int) (u : ByteArray) (w : World) : Calls Tryd.prog 55 #[.agg #[.int .i64 k, .int .i64 o, .int .i64 i, .int .i64 q, .int .i64 p, .int .i64 c, .int .i64 t, .string u]] w fun x w' => x = .returned (Ev.val ⟨k, o, i, q, p, c, t, u, 0, ⟨#[]⟩⟩) ∧ Below w.heap.size w w' := by
  have hb0 : Below w.heap.size w ((w.alloc (.cells #[.int .i64 k, .int .i64 o, .int .i64 i, .int .i64 q, .int .i64 p, .int .i64 c, .int .i64 t, .string u] 57)).alloc (.cells #[.int .i64 0, .int .i64 0, .int .i64 0, .int .i64 0, .int .i64 0, .int .i64 0, .int .i64 0, .string ⟨#[]⟩, .int .i64 0, .string ⟨#[]⟩] 24)) := below_next (below_made _ _) (below_made _ _)
  have h0 : ((w.alloc (.cells #[.int .i64 k, .int .i64 o, .int .i64 i, .int .i64 q, .int .i64 p, .int .i64 c, .int .i64 t, .string u] 57)).alloc (.cells #[.int .i64 0, .int .i64 0, .int .i64 0, .int .i64 0, .int .i64 0, .int .i64 0, .int .i64 0, .string ⟨#[]⟩, .int .i64 0, .string ⟨#[]⟩] 24)).heap[w.heap.size + 1]? = some (.cells #[.int .i64 0, .int .i64 0, .int .i64 0, .int .i64 0, .int .i64 0, .int .i64 0, .int .i64 0, .string ⟨#[]⟩, .int .i64 0, .string ⟨#[]⟩] 24) := by
    have := heap_alloc_new (w.alloc (.cells #[.int .i64 k, .int .i64 o, .int .i64 i, .int .i64 q, .int .i64 p, .int .i64 c, .int .i64 t, .string u] 57)) (.cells #[.int .i64 0, .int .i64 0, .int .i64 0, .int .i64 0, .int .i64 0, .int .i64 0, .int .i64 0, .string ⟨#[]⟩, .int .i64 0, .string ⟨#[]⟩] 24)
    simpa using this
  have hz0 : ((w.alloc (.cells #[.int .i64 k, .int .i64 o, .int .i64 i, .int .i64 q, .int .i64 p, .int .i64 c, .int .i64 t, .string u] 57)).alloc (.cells #[.int .i64 0, .int .i64 0, .int .i64 0, .int .i64 0, .int .i64 0, .int .i64 0, .int .i64 0, .string ⟨#[]⟩, .int .i64 0, .string ⟨#[]⟩] 24)).heap.size = w.heap.size + 2 := by simp
  go_enter Tryd.func55, Tryd.ntmps55
  go_wp2_with fail
  (with_reducible refine (ev3_any _ _ _ _ _ _ _ _).mono ?_)
  rintro x w1 ⟨rfl, hb1⟩
  unfold Ev.val Ev.cells
  have hv1 : w1.heap[w.heap.size]? = some (.cells #[.int .i64 k, .int .i64 o, .int .i64 i, .int .i64 q, .int .i64 p, .int .i64 c, .int .i64 t, .string u] 57) := (hb1.block _ (by omega)).trans (by rw [Below.heap_alloc _ _ _ (by simp)]; exact heap_alloc_new w _)
  have hzv : w.heap.size < w1.heap.size := by have := hb1.size; omega
  have hv_7 : ∀ o, (w1.alloc o).cell? ⟨w.heap.size, 7, none⟩ = some (.string u) := fun o => (World.cell?_of_block (Below.heap_alloc w1 o _ hzv)).trans (cell_blk hv1 rfl)
  go_upto_region 3 with (fail)
  have h1 := (hb1.block _ (by omega)).trans h0
  have hz1 : w.heap.size + 2 ≤ w1.heap.size := by have := hb1.size; omega
  have hbm := below_made w1 (.cells #[.int .i64 k, .int .i64 o, .int .i64 i, .int .i64 q, .int .i64 p, .int .i64 c, .int .i64 t, .string u, .int .i64 0, .string ⟨#[]⟩] 24)
  have hf := heap_alloc_new w1 (.cells #[.int .i64 k, .int .i64 o, .int .i64 i, .int .i64 q, .int .i64 p, .int .i64 c, .int .i64 t, .string u, .int .i64 0, .string ⟨#[]⟩] 24)
  have h2 := (hbm.block _ (by omega)).trans h1
  have hb2 := below_next (below_next hb0 hb1) hbm
  obtain ⟨wm, hwm⟩ : ∃ wm, w1.alloc (.cells #[.int .i64 k, .int .i64 o, .int .i64 i, .int .i64 q, .int .i64 p, .int .i64 c, .int .i64 t, .string u, .int .i64 0, .string ⟨#[]⟩] 24) = wm := ⟨_, rfl⟩
  rw [hwm] at hf h2 hb2 ⊢
  clear hwm hbm h1 hb1 hb0 h0 hz0 hv1 hv_7
  have hg := setRow_heap wm (w.heap.size + 1) _ #[.int .i64 k, .int .i64 o, .int .i64 i, .int .i64 q, .int .i64 p, .int .i64 c, .int .i64 t, .string u, .int .i64 0, .string ⟨#[]⟩] _ _ h2
  have hbs := below_row hb2 (Nat.le_succ _) #[.int .i64 k, .int .i64 o, .int .i64 i, .int .i64 q, .int .i64 p, .int .i64 c, .int .i64 t, .string u, .int .i64 0, .string ⟨#[]⟩]
  go_wp2_with (first
    | (with_reducible refine wpList_load_row rfl 24 (.tmp 3) rfl w1.heap.size rfl _ #[.int .i64 k, .int .i64 o, .int .i64 i, .int .i64 q, .int .i64 p, .int .i64 c, .int .i64 t, .string u, .int .i64 0, .string ⟨#[]⟩] (0, 0) _ hf Tryd.underlying24 rfl (by with_unfolding_all exact info_ev) ?_)
    | (with_reducible refine wpList_store_row rfl 24 (.tmp 2) (.tmp 10) rfl (w.heap.size + 1) #[.int .i64 k, .int .i64 o, .int .i64 i, .int .i64 q, .int .i64 p, .int .i64 c, .int .i64 t, .string u, .int .i64 0, .string ⟨#[]⟩] rfl rfl _ _ h2 (by with_unfolding_all exact info_ev) (by with_unfolding_all exact rfl) (by with_unfolding_all exact rfl) ?_))
  exact bodyPost_ret (v := Ev.val ⟨k, o, i, q, p, c, t, u, 0, ⟨#[]⟩⟩) (ret_ev rfl rfl hg rfl) rfl ⟨rfl, hbs⟩

set_option maxHeartbeats 800000 in
theorem ev5_any (k : Int) (o : Int) (i : Int) (q : Int) (p : Int) (c : Int) (t : Int) (u : ByteArray) (s : Int) (n : ByteArray) (w : World) : Calls Tryd.prog 60 #[.agg #[.int .i64 k, .int .i64 o, .int .i64 i, .int .i64 q, .int .i64 p, .int .i64 c, .int .i64 t, .string u, .int .i64 s, .string n]] w fun x w' => x = .returned (Ev.val ⟨k, o, i, q, p, c, t, u, s, n⟩) ∧ Below w.heap.size w w' := by
  have hb0 : Below w.heap.size w ((w.alloc (.cells #[.int .i64 k, .int .i64 o, .int .i64 i, .int .i64 q, .int .i64 p, .int .i64 c, .int .i64 t, .string u, .int .i64 s, .string n] 59)).alloc (.cells #[.int .i64 0, .int .i64 0, .int .i64 0, .int .i64 0, .int .i64 0, .int .i64 0, .int .i64 0, .string ⟨#[]⟩, .int .i64 0, .string ⟨#[]⟩] 24)) := below_next (below_made _ _) (below_made _ _)
  have h0 : ((w.alloc (.cells #[.int .i64 k, .int .i64 o, .int .i64 i, .int .i64 q, .int .i64 p, .int .i64 c, .int .i64 t, .string u, .int .i64 s, .string n] 59)).alloc (.cells #[.int .i64 0, .int .i64 0, .int .i64 0, .int .i64 0, .int .i64 0, .int .i64 0, .int .i64 0, .string ⟨#[]⟩, .int .i64 0, .string ⟨#[]⟩] 24)).heap[w.heap.size + 1]? = some (.cells #[.int .i64 0, .int .i64 0, .int .i64 0, .int .i64 0, .int .i64 0, .int .i64 0, .int .i64 0, .string ⟨#[]⟩, .int .i64 0, .string ⟨#[]⟩] 24) := by
    have := heap_alloc_new (w.alloc (.cells #[.int .i64 k, .int .i64 o, .int .i64 i, .int .i64 q, .int .i64 p, .int .i64 c, .int .i64 t, .string u, .int .i64 s, .string n] 59)) (.cells #[.int .i64 0, .int .i64 0, .int .i64 0, .int .i64 0, .int .i64 0, .int .i64 0, .int .i64 0, .string ⟨#[]⟩, .int .i64 0, .string ⟨#[]⟩] 24)
    simpa using this
  have hz0 : ((w.alloc (.cells #[.int .i64 k, .int .i64 o, .int .i64 i, .int .i64 q, .int .i64 p, .int .i64 c, .int .i64 t, .string u, .int .i64 s, .string n] 59)).alloc (.cells #[.int .i64 0, .int .i64 0, .int .i64 0, .int .i64 0, .int .i64 0, .int .i64 0, .int .i64 0, .string ⟨#[]⟩, .int .i64 0, .string ⟨#[]⟩] 24)).heap.size = w.heap.size + 2 := by simp
  go_enter Tryd.func60, Tryd.ntmps60
  go_wp2_with fail
  (with_reducible refine (ev4_any _ _ _ _ _ _ _ _ _).mono ?_)
  rintro x w1 ⟨rfl, hb1⟩
  unfold Ev.val Ev.cells
  have hv1 : w1.heap[w.heap.size]? = some (.cells #[.int .i64 k, .int .i64 o, .int .i64 i, .int .i64 q, .int .i64 p, .int .i64 c, .int .i64 t, .string u, .int .i64 s, .string n] 59) := (hb1.block _ (by omega)).trans (by rw [Below.heap_alloc _ _ _ (by simp)]; exact heap_alloc_new w _)
  have hzv : w.heap.size < w1.heap.size := by have := hb1.size; omega
  have hv_8 : ∀ o, (w1.alloc o).cell? ⟨w.heap.size, 8, none⟩ = some (.int .i64 s) := fun o => (World.cell?_of_block (Below.heap_alloc w1 o _ hzv)).trans (cell_blk hv1 rfl)
  have hv_9 : ∀ o, (w1.alloc o).cell? ⟨w.heap.size, 9, none⟩ = some (.string n) := fun o => (World.cell?_of_block (Below.heap_alloc w1 o _ hzv)).trans (cell_blk hv1 rfl)
  go_upto_region 4 with (fail)
  have h1 := (hb1.block _ (by omega)).trans h0
  have hz1 : w.heap.size + 2 ≤ w1.heap.size := by have := hb1.size; omega
  have hbm := below_made w1 (.cells #[.int .i64 k, .int .i64 o, .int .i64 i, .int .i64 q, .int .i64 p, .int .i64 c, .int .i64 t, .string u, .int .i64 s, .string n] 24)
  have hf := heap_alloc_new w1 (.cells #[.int .i64 k, .int .i64 o, .int .i64 i, .int .i64 q, .int .i64 p, .int .i64 c, .int .i64 t, .string u, .int .i64 s, .string n] 24)
  have h2 := (hbm.block _ (by omega)).trans h1
  have hb2 := below_next (below_next hb0 hb1) hbm
  obtain ⟨wm, hwm⟩ : ∃ wm, w1.alloc (.cells #[.int .i64 k, .int .i64 o, .int .i64 i, .int .i64 q, .int .i64 p, .int .i64 c, .int .i64 t, .string u, .int .i64 s, .string n] 24) = wm := ⟨_, rfl⟩
  rw [hwm] at hf h2 hb2 ⊢
  clear hwm hbm h1 hb1 hb0 h0 hz0 hv1 hv_8 hv_9
  have hg := setRow_heap wm (w.heap.size + 1) _ #[.int .i64 k, .int .i64 o, .int .i64 i, .int .i64 q, .int .i64 p, .int .i64 c, .int .i64 t, .string u, .int .i64 s, .string n] _ _ h2
  have hbs := below_row hb2 (Nat.le_succ _) #[.int .i64 k, .int .i64 o, .int .i64 i, .int .i64 q, .int .i64 p, .int .i64 c, .int .i64 t, .string u, .int .i64 s, .string n]
  go_wp2_with (first
    | (with_reducible refine wpList_load_row rfl 24 (.tmp 3) rfl w1.heap.size rfl _ #[.int .i64 k, .int .i64 o, .int .i64 i, .int .i64 q, .int .i64 p, .int .i64 c, .int .i64 t, .string u, .int .i64 s, .string n] (0, 0) _ hf Tryd.underlying24 rfl (by with_unfolding_all exact info_ev) ?_)
    | (with_reducible refine wpList_store_row rfl 24 (.tmp 2) (.tmp 13) rfl (w.heap.size + 1) #[.int .i64 k, .int .i64 o, .int .i64 i, .int .i64 q, .int .i64 p, .int .i64 c, .int .i64 t, .string u, .int .i64 s, .string n] rfl rfl _ _ h2 (by with_unfolding_all exact info_ev) (by with_unfolding_all exact rfl) (by with_unfolding_all exact rfl) ?_))
  exact bodyPost_ret (v := Ev.val ⟨k, o, i, q, p, c, t, u, s, n⟩) (ret_ev rfl rfl hg rfl) rfl ⟨rfl, hbs⟩
end Go.Proofs.YtfpmlmohmmccjaaDoor
