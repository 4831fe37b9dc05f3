/-
  The walks of Lift, of the five Event. No condition.
  The walks of the Event of versions 2 to 5, printed by gentyped.py. No condition.
  Ten cells of a block; a cell behind a callee. No condition.
-/
import Derived.Test.YtkdpingniohfhaaDoorRows
import Derived.Test.YtkdpingniohfhaaDoorMBase
import Derived.Laws.Tables
import Derived.Laws.Rows
import Derived.Deep.Cut
import Derived.Lib.Hide
namespace Go.Proofs.YtkdpingniohfhaaDoor
open Go.RowKit
set_option linter.unusedVariables false

theorem lift_any (e : Ev) (w : World) : Calls Tryd.prog 44 #[e.val] w fun x w' => x = .returned e.val ∧ Below w.heap.size w w' := by
  unfold Ev.val Ev.cells
  go_enter Tryd.func44, Tryd.ntmps44
  go_wp2_with fail
  exact bodyPost_ret (v := e.val) (by simp [results, Tryd.results44, go_sem, Ev.val, Ev.cells]) rfl ⟨rfl, (((Below.refl _ _).alloc (Nat.le_refl _) _).alloc (by simp) _).alloc (by simp; omega) _⟩

theorem ev1_any (k o i q p : Int) (w : World) : Calls Tryd.prog 72 #[.agg #[.int .i64 k, .int .i64 o, .int .i64 i, .int .i64 q, .int .i64 p]] w fun x w' => x = .returned (Ev.val ⟨k, o, i, q, p, 0, 0, ⟨#[]⟩, 0, ⟨#[]⟩⟩) ∧ Below w.heap.size w w' := by
  go_enter Tryd.func72, Tryd.ntmps72
  go_wp2_with fail
  exact bodyPost_ret (v := Ev.val ⟨k, o, i, q, p, 0, 0, ⟨#[]⟩, 0, ⟨#[]⟩⟩) (by simp [results, Tryd.results72, go_sem, Ev.val, Ev.cells]) rfl ⟨rfl, ((Below.refl _ _).alloc (Nat.le_refl _) _).alloc (by simp) _⟩

end Go.Proofs.YtkdpingniohfhaaDoor

namespace Go.Proofs.YtkdpingniohfhaaDoor
open Go.RowKit
set_option linter.unusedVariables false

theorem info_ev : (Tryd.prog.info? 25).map (·.size) = some 10 := by kernel_rfl
theorem ret_ev {fn : Func} {p : Tmp} {cs : Array Value} {tmps : Array Value} {w : World} {g : Nat} {e : TypeId} (h : fn.results = #[.cell p 25]) (hp : tmps.getD p undef = .pointer (some ⟨g, 0, none⟩)) (hg : w.heap[g]? = some (.cells cs e (0, 0))) (hs : cs.size = 10) :
    (results fn tmps).run Tryd.prog w = .ok (.agg cs) w :=
  results_cell_row h tmps w g e cs (0, 0) _ hp hg Tryd.underlying25 rfl (by rw [hs]; exact info_ev)
theorem below_row {B g : Nat} {w0 w : World} (hb : Below B w0 w) (hBg : B ≤ g) (cs : Array Value) : Below B w0 (w.setRow g cs) :=
  hb.trans ⟨rfl, rfl, rfl, by simp, fun k hk => setRow_other w g k _ (by omega)⟩


set_option maxHeartbeats 800000 in
theorem ev2_any (k : Int) (o : Int) (i : Int) (q : Int) (p : Int) (c : Int) (w : World) : Calls Tryd.prog 83 #[.agg #[.int .i64 k, .int .i64 o, .int .i64 i, .int .i64 q, .int .i64 p, .int .i64 c]] w fun x w' => x = .returned (Ev.val ⟨k, o, i, q, p, c, 0, ⟨#[]⟩, 0, ⟨#[]⟩⟩) ∧ Below w.heap.size w w' := by
  have hb0 : Below w.heap.size w ((w.alloc (.cells #[.int .i64 k, .int .i64 o, .int .i64 i, .int .i64 q, .int .i64 p, .int .i64 c] 90)).alloc (.cells #[.int .i64 0, .int .i64 0, .int .i64 0, .int .i64 0, .int .i64 0, .int .i64 0, .int .i64 0, .string ⟨#[]⟩, .int .i64 0, .string ⟨#[]⟩] 25)) := below_next (below_made _ _) (below_made _ _)
  have h0 : ((w.alloc (.cells #[.int .i64 k, .int .i64 o, .int .i64 i, .int .i64 q, .int .i64 p, .int .i64 c] 90)).alloc (.cells #[.int .i64 0, .int .i64 0, .int .i64 0, .int .i64 0, .int .i64 0, .int .i64 0, .int .i64 0, .string ⟨#[]⟩, .int .i64 0, .string ⟨#[]⟩] 25)).heap[w.heap.size + 1]? = some (.cells #[.int .i64 0, .int .i64 0, .int .i64 0, .int .i64 0, .int .i64 0, .int .i64 0, .int .i64 0, .string ⟨#[]⟩, .int .i64 0, .string ⟨#[]⟩] 25) := by
    have := heap_alloc_new (w.alloc (.cells #[.int .i64 k, .int .i64 o, .int .i64 i, .int .i64 q, .int .i64 p, .int .i64 c] 90)) (.cells #[.int .i64 0, .int .i64 0, .int .i64 0, .int .i64 0, .int .i64 0, .int .i64 0, .int .i64 0, .string ⟨#[]⟩, .int .i64 0, .string ⟨#[]⟩] 25)
    simpa using this
  have hz0 : ((w.alloc (.cells #[.int .i64 k, .int .i64 o, .int .i64 i, .int .i64 q, .int .i64 p, .int .i64 c] 90)).alloc (.cells #[.int .i64 0, .int .i64 0, .int .i64 0, .int .i64 0, .int .i64 0, .int .i64 0, .int .i64 0, .string ⟨#[]⟩, .int .i64 0, .string ⟨#[]⟩] 25)).heap.size = w.heap.size + 2 := by simp
  go_enter Tryd.func83, Tryd.ntmps83
  go_wp2_with fail
  (with_reducible refine (ev1_any _ _ _ _ _ _).mono ?_)
  rintro x w1 ⟨rfl, hb1⟩
  unfold Ev.val Ev.cells
  have hv1 : w1.heap[w.heap.size]? = some (.cells #[.int .i64 k, .int .i64 o, .int .i64 i, .int .i64 q, .int .i64 p, .int .i64 c] 90) := (hb1.block _ (by omega)).trans (by rw [Below.heap_alloc _ _ _ (by simp)]; exact heap_alloc_new w _)
  have hzv : w.heap.size < w1.heap.size := by have := hb1.size; omega
  have hv_5 : ∀ o, (w1.alloc o).cell? ⟨w.heap.size, 5, none⟩ = some (.int .i64 c) := fun o => (World.cell?_of_block (Below.heap_alloc w1 o _ hzv)).trans (cell_blk hv1 rfl)
  go_upto_region 3 with (fail)
  have h1 := (hb1.block _ (by omega)).trans h0
  have hz1 : w.heap.size + 2 ≤ w1.heap.size := by have := hb1.size; omega
  have hbm := below_made w1 (.cells #[.int .i64 k, .int .i64 o, .int .i64 i, .int .i64 q, .int .i64 p, .int .i64 c, .int .i64 0, .string ⟨#[]⟩, .int .i64 0, .string ⟨#[]⟩] 25)
  have hf := heap_alloc_new w1 (.cells #[.int .i64 k, .int .i64 o, .int .i64 i, .int .i64 q, .int .i64 p, .int .i64 c, .int .i64 0, .string ⟨#[]⟩, .int .i64 0, .string ⟨#[]⟩] 25)
  have h2 := (hbm.block _ (by omega)).trans h1
  have hb2 := below_next (below_next hb0 hb1) hbm
  obtain ⟨wm, hwm⟩ : ∃ wm, w1.alloc (.cells #[.int .i64 k, .int .i64 o, .int .i64 i, .int .i64 q, .int .i64 p, .int .i64 c, .int .i64 0, .string ⟨#[]⟩, .int .i64 0, .string ⟨#[]⟩] 25) = wm := ⟨_, rfl⟩
  rw [hwm] at hf h2 hb2 ⊢
  clear hwm hbm h1 hb1 hb0 h0 hz0 hv1 hv_5
  have hg := setRow_heap wm (w.heap.size + 1) _ #[.int .i64 k, .int .i64 o, .int .i64 i, .int .i64 q, .int .i64 p, .int .i64 c, .int .i64 0, .string ⟨#[]⟩, .int .i64 0, .string ⟨#[]⟩] _ _ h2
  have hbs := below_row hb2 (Nat.le_succ _) #[.int .i64 k, .int .i64 o, .int .i64 i, .int .i64 q, .int .i64 p, .int .i64 c, .int .i64 0, .string ⟨#[]⟩, .int .i64 0, .string ⟨#[]⟩]
  go_wp2_with (first
    | (with_reducible refine wpList_load_row rfl 25 (.tmp 3) rfl w1.heap.size rfl _ #[.int .i64 k, .int .i64 o, .int .i64 i, .int .i64 q, .int .i64 p, .int .i64 c, .int .i64 0, .string ⟨#[]⟩, .int .i64 0, .string ⟨#[]⟩] (0, 0) _ hf Tryd.underlying25 rfl (by with_unfolding_all exact info_ev) ?_)
    | (with_reducible refine wpList_store_row rfl 25 (.tmp 2) (.tmp 10) rfl (w.heap.size + 1) #[.int .i64 k, .int .i64 o, .int .i64 i, .int .i64 q, .int .i64 p, .int .i64 c, .int .i64 0, .string ⟨#[]⟩, .int .i64 0, .string ⟨#[]⟩] rfl rfl _ _ h2 (by with_unfolding_all exact info_ev) (by with_unfolding_all exact rfl) (by with_unfolding_all exact rfl) ?_))
  exact bodyPost_ret (v := Ev.val ⟨k, o, i, q, p, c, 0, ⟨#[]⟩, 0, ⟨#[]⟩⟩) (ret_ev rfl rfl hg rfl) rfl ⟨rfl, hbs⟩

set_option maxHeartbeats 800000 in
theorem ev3_any (k : Int) (o : Int) (i : Int) (q : Int) (p : Int) (c : Int) (t : Int) (w : World) : Calls Tryd.prog 86 #[.agg #[.int .i64 k, .int .i64 o, .int .i64 i, .int .i64 q, .int .i64 p, .int .i64 c, .int .i64 t]] w fun x w' => x = .returned (Ev.val ⟨k, o, i, q, p, c, t, ⟨#[]⟩, 0, ⟨#[]⟩⟩) ∧ Below w.heap.size w w' := by
  have hb0 : Below w.heap.size w ((w.alloc (.cells #[.int .i64 k, .int .i64 o, .int .i64 i, .int .i64 q, .int .i64 p, .int .i64 c, .int .i64 t] 92)).alloc (.cells #[.int .i64 0, .int .i64 0, .int .i64 0, .int .i64 0, .int .i64 0, .int .i64 0, .int .i64 0, .string ⟨#[]⟩, .int .i64 0, .string ⟨#[]⟩] 25)) := below_next (below_made _ _) (below_made _ _)
  have h0 : ((w.alloc (.cells #[.int .i64 k, .int .i64 o, .int .i64 i, .int .i64 q, .int .i64 p, .int .i64 c, .int .i64 t] 92)).alloc (.cells #[.int .i64 0, .int .i64 0, .int .i64 0, .int .i64 0, .int .i64 0, .int .i64 0, .int .i64 0, .string ⟨#[]⟩, .int .i64 0, .string ⟨#[]⟩] 25)).heap[w.heap.size + 1]? = some (.cells #[.int .i64 0, .int .i64 0, .int .i64 0, .int .i64 0, .int .i64 0, .int .i64 0, .int .i64 0, .string ⟨#[]⟩, .int .i64 0, .string ⟨#[]⟩] 25) := by
    have := heap_alloc_new (w.alloc (.cells #[.int .i64 k, .int .i64 o, .int .i64 i, .int .i64 q, .int .i64 p, .int .i64 c, .int .i64 t] 92)) (.cells #[.int .i64 0, .int .i64 0, .int .i64 0, .int .i64 0, .int .i64 0, .int .i64 0, .int .i64 0, .string ⟨#[]⟩, .int .i64 0, .string ⟨#[]⟩] 25)
    simpa using this
  have hz0 : ((w.alloc (.cells #[.int .i64 k, .int .i64 o, .int .i64 i, .int .i64 q, .int .i64 p, .int .i64 c, .int .i64 t] 92)).alloc (.cells #[.int .i64 0, .int .i64 0, .int .i64 0, .int .i64 0, .int .i64 0, .int .i64 0, .int .i64 0, .string ⟨#[]⟩, .int .i64 0, .string ⟨#[]⟩] 25)).heap.size = w.heap.size + 2 := by simp
  go_enter Tryd.func86, Tryd.ntmps86
  go_wp2_with fail
  (with_reducible refine (ev2_any _ _ _ _ _ _ _).mono ?_)
  rintro x w1 ⟨rfl, hb1⟩
  unfold Ev.val Ev.cells
  have hv1 : w1.heap[w.heap.size]? = some (.cells #[.int .i64 k, .int .i64 o, .int .i64 i, .int .i64 q, .int .i64 p, .int .i64 c, .int .i64 t] 92) := (hb1.block _ (by omega)).trans (by rw [Below.heap_alloc _ _ _ (by simp)]; exact heap_alloc_new w _)
  have hzv : w.heap.size < w1.heap.size := by have := hb1.size; omega
  have hv_6 : ∀ o, (w1.alloc o).cell? ⟨w.heap.size, 6, none⟩ = some (.int .i64 t) := fun o => (World.cell?_of_block (Below.heap_alloc w1 o _ hzv)).trans (cell_blk hv1 rfl)
  go_upto_region 3 with (fail)
  have h1 := (hb1.block _ (by omega)).trans h0
  have hz1 : w.heap.size + 2 ≤ w1.heap.size := by have := hb1.size; omega
  have hbm := below_made w1 (.cells #[.int .i64 k, .int .i64 o, .int .i64 i, .int .i64 q, .int .i64 p, .int .i64 c, .int .i64 t, .string ⟨#[]⟩, .int .i64 0, .string ⟨#[]⟩] 25)
  have hf := heap_alloc_new w1 (.cells #[.int .i64 k, .int .i64 o, .int .i64 i, .int .i64 q, .int .i64 p, .int .i64 c, .int .i64 t, .string ⟨#[]⟩, .int .i64 0, .string ⟨#[]⟩] 25)
  have h2 := (hbm.block _ (by omega)).trans h1
  have hb2 := below_next (below_next hb0 hb1) hbm
  obtain ⟨wm, hwm⟩ : ∃ wm, w1.alloc (.cells #[.int .i64 k, .int .i64 o, .int .i64 i, .int .i64 q, .int .i64 p, .int .i64 c, .int .i64 t, .string ⟨#[]⟩, .int .i64 0, .string ⟨#[]⟩] 25) = wm := ⟨_, rfl⟩
  rw [hwm] at hf h2 hb2 ⊢
  clear hwm hbm h1 hb1 hb0 h0 hz0 hv1 hv_6
  have hg := setRow_heap wm (w.heap.size + 1) _ #[.int .i64 k, .int .i64 o, .int .i64 i, .int .i64 q, .int .i64 p, .int .i64 c, .int .i64 t, .string ⟨#[]⟩, .int .i64 0, .string ⟨#[]⟩] _ _ h2
  have hbs := below_row hb2 (Nat.le_succ _) #[.int .i64 k, .int .i64 o, .int .i64 i, .int .i64 q, .int .i64 p, .int .i64 c, .int .i64 t, .string ⟨#[]⟩, .int .i64 0, .string ⟨#[]⟩]
  go_wp2_with (first
    | (with_reducible refine wpList_load_row rfl 25 (.tmp 3) rfl w1.heap.size rfl _ #[.int .i64 k, .int .i64 o, .int .i64 i, .int .i64 q, .int .i64 p, .int .i64 c, .int .i64 t, .string ⟨#[]⟩, .int .i64 0, .string ⟨#[]⟩] (0, 0) _ hf Tryd.underlying25 rfl (by with_unfolding_all exact info_ev) ?_)
    | (with_reducible refine wpList_store_row rfl 25 (.tmp 2) (.tmp 10) rfl (w.heap.size + 1) #[.int .i64 k, .int .i64 o, .int .i64 i, .int .i64 q, .int .i64 p, .int .i64 c, .int .i64 t, .string ⟨#[]⟩, .int .i64 0, .string ⟨#[]⟩] rfl rfl _ _ h2 (by with_unfolding_all exact info_ev) (by with_unfolding_all exact rfl) (by with_unfolding_all exact rfl) ?_))
  exact bodyPost_ret (v := Ev.val ⟨k, o, i, q, p, c, t, ⟨#[]⟩, 0, ⟨#[]⟩⟩) (ret_ev rfl rfl hg rfl) rfl ⟨rfl, hbs⟩

set_option maxHeartbeats 800000 in
theorem ev4_any (k : Int) (o : Int) (i : Int) (q : Int) (p : Int) (c : Int) (t : Int) (u : ByteArray) (w : World) : Calls Tryd.prog 90 #[.agg #[.int .i64 k, .int .i64 o, .int .i64 i, .int .i64 q, .int .i64 p, .int .i64 c, .int .i64 t, .string u]] w fun x w' => x = .returned (Ev.val ⟨k, o, i, q, p, c, t, u, 0, ⟨#[]⟩⟩) ∧ Below w.heap.size w w' := by
  have hb0 : Below w.heap.size w ((w.alloc (.cells #[.int .i64 k, .int .i64 o, .int .i64 i, .int .i64 q, .int .i64 p, .int .i64 c, .int .i64 t, .string u] 94)).alloc (.cells #[.int .i64 0, .int .i64 0, .int .i64 0, .int .i64 0, .int .i64 0, .int .i64 0, .int .i64 0, .string ⟨#[]⟩, .int .i64 0, .string ⟨#[]⟩] 25)) := below_next (below_made _ _) (below_made _ _)
  have h0 : ((w.alloc (.cells #[.int .i64 k, .int .i64 o, .int .i64 i, .int .i64 q, .int .i64 p, .int .i64 c, .int .i64 t, .string u] 94)).alloc (.cells #[.int .i64 0, .int .i64 0, .int .i64 0, .int .i64 0, .int .i64 0, .int .i64 0, .int .i64 0, .string ⟨#[]⟩, .int .i64 0, .string ⟨#[]⟩] 25)).heap[w.heap.size + 1]? = some (.cells #[.int .i64 0, .int .i64 0, .int .i64 0, .int .i64 0, .int .i64 0, .int .i64 0, .int .i64 0, .string ⟨#[]⟩, .int .i64 0, .string ⟨#[]⟩] 25) := by
    have := heap_alloc_new (w.alloc (.cells #[.int .i64 k, .int .i64 o, .int .i64 i, .int .i64 q, .int .i64 p, .int .i64 c, .int .i64 t, .string u] 94)) (.cells #[.int .i64 0, .int .i64 0, .int .i64 0, .int .i64 0, .int .i64 0, .int .i64 0, .int .i64 0, .string ⟨#[]⟩, .int .i64 0, .string ⟨#[]⟩] 25)
    simpa using this
  have hz0 : ((w.alloc (.cells #[.int .i64 k, .int .i64 o, .int .i64 i, .int .i64 q, .int .i64 p, .int .i64 c, .int .i64 t, .string u] 94)).alloc (.cells #[.int .i64 0, .int .i64 0, .int .i64 0, .int .i64 0, .int .i64 0, .int .i64 0, .int .i64 0, .string ⟨#[]⟩, .int .i64 0, .string ⟨#[]⟩] 25)).heap.size = w.heap.size + 2 := by simp
  go_enter Tryd.func90, Tryd.ntmps90
  go_wp2_with fail
  (with_reducible refine (ev3_any _ _ _ _ _ _ _ _).mono ?_)
  rintro x w1 ⟨rfl, hb1⟩
  unfold Ev.val Ev.cells
  have hv1 : w1.heap[w.heap.size]? = some (.cells #[.int .i64 k, .int .i64 o, .int .i64 i, .int .i64 q, .int .i64 p, .int .i64 c, .int .i64 t, .string u] 94) := (hb1.block _ (by omega)).trans (by rw [Below.heap_alloc _ _ _ (by simp)]; exact heap_alloc_new w _)
  have hzv : w.heap.size < w1.heap.size := by have := hb1.size; omega
  have hv_7 : ∀ o, (w1.alloc o).cell? ⟨w.heap.size, 7, none⟩ = some (.string u) := fun o => (World.cell?_of_block (Below.heap_alloc w1 o _ hzv)).trans (cell_blk hv1 rfl)
  go_upto_region 3 with (fail)
  have h1 := (hb1.block _ (by omega)).trans h0
  have hz1 : w.heap.size + 2 ≤ w1.heap.size := by have := hb1.size; omega
  have hbm := below_made w1 (.cells #[.int .i64 k, .int .i64 o, .int .i64 i, .int .i64 q, .int .i64 p, .int .i64 c, .int .i64 t, .string u, .int .i64 0, .string ⟨#[]⟩] 25)
  have hf := heap_alloc_new w1 (.cells #[.int .i64 k, .int .i64 o, .int .i64 i, .int .i64 q, .int .i64 p, .int .i64 c, .int .i64 t, .string u, .int .i64 0, .string ⟨#[]⟩] 25)
  have h2 := (hbm.block _ (by omega)).trans h1
  have hb2 := below_next (below_next hb0 hb1) hbm
  obtain ⟨wm, hwm⟩ : ∃ wm, w1.alloc (.cells #[.int .i64 k, .int .i64 o, .int .i64 i, .int .i64 q, .int .i64 p, .int .i64 c, .int .i64 t, .string u, .int .i64 0, .string ⟨#[]⟩] 25) = wm := ⟨_, rfl⟩
  rw [hwm] at hf h2 hb2 ⊢
  clear hwm hbm h1 hb1 hb0 h0 hz0 hv1 hv_7
  have hg := setRow_heap wm (w.heap.size + 1) _ #[.int .i64 k, .int .i64 o, .int .i64 i, .int .i64 q, .int .i64 p, .int .i64 c, .int .i64 t, .string u, .int .i64 0, .string ⟨#[]⟩] _ _ h2
  have hbs := below_row hb2 (Nat.le_succ _) #[.int .i64 k, .int .i64 o, .int .i64 i, .int .i64 q, .int .i64 p, .int .i64 c, .int .i64 t, .string u, .int .i64 0, .string ⟨#[]⟩]
  go_wp2_with (first
    | (with_reducible refine wpList_load_row rfl 25 (.tmp 3) rfl w1.heap.size rfl _ #[.int .i64 k, .int .i64 o, .int .i64 i, .int .i64 q, .int .i64 p, .int .i64 c, .int .i64 t, .string u, .int .i64 0, .string ⟨#[]⟩] (0, 0) _ hf Tryd.underlying25 rfl (by with_unfolding_all exact info_ev) ?_)
    | (with_reducible refine wpList_store_row rfl 25 (.tmp 2) (.tmp 10) rfl (w.heap.size + 1) #[.int .i64 k, .int .i64 o, .int .i64 i, .int .i64 q, .int .i64 p, .int .i64 c, .int .i64 t, .string u, .int .i64 0, .string ⟨#[]⟩] rfl rfl _ _ h2 (by with_unfolding_all exact info_ev) (by with_unfolding_all exact rfl) (by with_unfolding_all exact rfl) ?_))
  exact bodyPost_ret (v := Ev.val ⟨k, o, i, q, p, c, t, u, 0, ⟨#[]⟩⟩) (ret_ev rfl rfl hg rfl) rfl ⟨rfl, hbs⟩

set_option maxHeartbeats 800000 in
theorem ev5_any (k : Int) (o : Int) (i : Int) (q : Int) (p : Int) (c : Int) (t : Int) (u : ByteArray) (s : Int) (n : ByteArray) (w : World) : Calls Tryd.prog 96 #[.agg #[.int .i64 k, .int .i64 o, .int .i64 i, .int .i64 q, .int .i64 p, .int .i64 c, .int .i64 t, .string u, .int .i64 s, .string n]] w fun x w' => x = .returned (Ev.val ⟨k, o, i, q, p, c, t, u, s, n⟩) ∧ Below w.heap.size w w' := by
  have hb0 : Below w.heap.size w ((w.alloc (.cells #[.int .i64 k, .int .i64 o, .int .i64 i, .int .i64 q, .int .i64 p, .int .i64 c, .int .i64 t, .string u, .int .i64 s, .string n] 96)).alloc (.cells #[.int .i64 0, .int .i64 0, .int .i64 0, .int .i64 0, .int .i64 0, .int .i64 0, .int .i64 0, .string ⟨#[]⟩, .int .i64 0, .string ⟨#[]⟩] 25)) := below_next (below_made _ _) (below_made _ _)
  have h0 : ((w.alloc (.cells #[.int .i64 k, .int .i64 o, .int .i64 i, .int .i64 q, .int .i64 p, .int .i64 c, .int .i64 t, .string u, .int .i64 s, .string n] 96)).alloc (.cells #[.int .i64 0, .int .i64 0, .int .i64 0, .int .i64 0, .int .i64 0, .int .i64 0, .int .i64 0, .string ⟨#[]⟩, .int .i64 0, .string ⟨#[]⟩] 25)).heap[w.heap.size + 1]? = some (.cells #[.int .i64 0, .int .i64 0, .int .i64 0, .int .i64 0, .int .i64 0, .int .i64 0, .int .i64 0, .string ⟨#[]⟩, .int .i64 0, .string ⟨#[]⟩] 25) := by
    have := heap_alloc_new (w.alloc (.cells #[.int .i64 k, .int .i64 o, .int .i64 i, .int .i64 q, .int .i64 p, .int .i64 c, .int .i64 t, .string u, .int .i64 s, .string n] 96)) (.cells #[.int .i64 0, .int .i64 0, .int .i64 0, .int .i64 0, .int .i64 0, .int .i64 0, .int .i64 0, .string ⟨#[]⟩, .int .i64 0, .string ⟨#[]⟩] 25)
    simpa using this
  have hz0 : ((w.alloc (.cells #[.int .i64 k, .int .i64 o, .int .i64 i, .int .i64 q, .int .i64 p, .int .i64 c, .int .i64 t, .string u, .int .i64 s, .string n] 96)).alloc (.cells #[.int .i64 0, .int .i64 0, .int .i64 0, .int .i64 0, .int .i64 0, .int .i64 0, .int .i64 0, .string ⟨#[]⟩, .int .i64 0, .string ⟨#[]⟩] 25)).heap.size = w.heap.size + 2 := by simp
  go_enter Tryd.func96, Tryd.ntmps96
  go_wp2_with fail
  (with_reducible refine (ev4_any _ _ _ _ _ _ _ _ _).mono ?_)
  rintro x w1 ⟨rfl, hb1⟩
  unfold Ev.val Ev.cells
  have hv1 : w1.heap[w.heap.size]? = some (.cells #[.int .i64 k, .int .i64 o, .int .i64 i, .int .i64 q, .int .i64 p, .int .i64 c, .int .i64 t, .string u, .int .i64 s, .string n] 96) := (hb1.block _ (by omega)).trans (by rw [Below.heap_alloc _ _ _ (by simp)]; exact heap_alloc_new w _)
  have hzv : w.heap.size < w1.heap.size := by have := hb1.size; omega
  have hv_8 : ∀ o, (w1.alloc o).cell? ⟨w.heap.size, 8, none⟩ = some (.int .i64 s) := fun o => (World.cell?_of_block (Below.heap_alloc w1 o _ hzv)).trans (cell_blk hv1 rfl)
  have hv_9 : ∀ o, (w1.alloc o).cell? ⟨w.heap.size, 9, none⟩ = some (.string n) := fun o => (World.cell?_of_block (Below.heap_alloc w1 o _ hzv)).trans (cell_blk hv1 rfl)
  go_upto_region 4 with (fail)
  have h1 := (hb1.block _ (by omega)).trans h0
  have hz1 : w.heap.size + 2 ≤ w1.heap.size := by have := hb1.size; omega
  have hbm := below_made w1 (.cells #[.int .i64 k, .int .i64 o, .int .i64 i, .int .i64 q, .int .i64 p, .int .i64 c, .int .i64 t, .string u, .int .i64 s, .string n] 25)
  have hf := heap_alloc_new w1 (.cells #[.int .i64 k, .int .i64 o, .int .i64 i, .int .i64 q, .int .i64 p, .int .i64 c, .int .i64 t, .string u, .int .i64 s, .string n] 25)
  have h2 := (hbm.block _ (by omega)).trans h1
  have hb2 := below_next (below_next hb0 hb1) hbm
  obtain ⟨wm, hwm⟩ : ∃ wm, w1.alloc (.cells #[.int .i64 k, .int .i64 o, .int .i64 i, .int .i64 q, .int .i64 p, .int .i64 c, .int .i64 t, .string u, .int .i64 s, .string n] 25) = wm := ⟨_, rfl⟩
  rw [hwm] at hf h2 hb2 ⊢
  clear hwm hbm h1 hb1 hb0 h0 hz0 hv1 hv_8 hv_9
  have hg := setRow_heap wm (w.heap.size + 1) _ #[.int .i64 k, .int .i64 o, .int .i64 i, .int .i64 q, .int .i64 p, .int .i64 c, .int .i64 t, .string u, .int .i64 s, .string n] _ _ h2
  have hbs := below_row hb2 (Nat.le_succ _) #[.int .i64 k, .int .i64 o, .int .i64 i, .int .i64 q, .int .i64 p, .int .i64 c, .int .i64 t, .string u, .int .i64 s, .string n]
  go_wp2_with (first
    | (with_reducible refine wpList_load_row rfl 25 (.tmp 3) rfl w1.heap.size rfl _ #[.int .i64 k, .int .i64 o, .int .i64 i, .int .i64 q, .int .i64 p, .int .i64 c, .int .i64 t, .string u, .int .i64 s, .string n] (0, 0) _ hf Tryd.underlying25 rfl (by with_unfolding_all exact info_ev) ?_)
    | (with_reducible refine wpList_store_row rfl 25 (.tmp 2) (.tmp 13) rfl (w.heap.size + 1) #[.int .i64 k, .int .i64 o, .int .i64 i, .int .i64 q, .int .i64 p, .int .i64 c, .int .i64 t, .string u, .int .i64 s, .string n] rfl rfl _ _ h2 (by with_unfolding_all exact info_ev) (by with_unfolding_all exact rfl) (by with_unfolding_all exact rfl) ?_))
  exact bodyPost_ret (v := Ev.val ⟨k, o, i, q, p, c, t, u, s, n⟩) (ret_ev rfl rfl hg rfl) rfl ⟨rfl, hbs⟩
end Go.Proofs.YtkdpingniohfhaaDoor

namespace Go.Proofs.YtkdpingniohfhaaDoor
open Go.RowKit
set_option linter.unusedVariables false

theorem below_cell {w w' : World} {b o : Nat} {x : Value} (hg : Below w.heap.size w w') (hc : w.cell? ⟨b, o, none⟩ = some x) : w'.cell? ⟨b, o, none⟩ = some x := by
  have hlt := World.block_lt_of_cell? w _ hc
  rw [World.cell?_of_block (hg.block b hlt)]
  exact hc

/-- Ten cells of a block. -/
structure EvAt (w : World) (b : Nat) (x0 x1 x2 x3 x4 x5 x6 x7 x8 x9 : Value) : Prop where
  c0 : w.cell? ⟨b, 0, none⟩ = some x0
  c1 : w.cell? ⟨b, 1, none⟩ = some x1
  c2 : w.cell? ⟨b, 2, none⟩ = some x2
  c3 : w.cell? ⟨b, 3, none⟩ = some x3
  c4 : w.cell? ⟨b, 4, none⟩ = some x4
  c5 : w.cell? ⟨b, 5, none⟩ = some x5
  c6 : w.cell? ⟨b, 6, none⟩ = some x6
  c7 : w.cell? ⟨b, 7, none⟩ = some x7
  c8 : w.cell? ⟨b, 8, none⟩ = some x8
  c9 : w.cell? ⟨b, 9, none⟩ = some x9
theorem evAt {w : World} {b : Nat} {t : TypeId} {x0 x1 x2 x3 x4 x5 x6 x7 x8 x9 : Value} (h : w.heap[b]? = some (.cells #[x0, x1, x2, x3, x4, x5, x6, x7, x8, x9] t (0, 0))) : EvAt w b x0 x1 x2 x3 x4 x5 x6 x7 x8 x9 :=
  ⟨cell_blk h rfl, cell_blk h rfl, cell_blk h rfl, cell_blk h rfl, cell_blk h rfl, cell_blk h rfl, cell_blk h rfl, cell_blk h rfl, cell_blk h rfl, cell_blk h rfl⟩
theorem below_blk {w w' : World} {b : Nat} {x : Obj} (hb : Below w.heap.size w w') (h : w.heap[b]? = some x) : w'.heap[b]? = some x := (hb.block _ (lt_of_block h)).trans h
end Go.Proofs.YtkdpingniohfhaaDoor
