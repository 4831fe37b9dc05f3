/-
  The walk of scan.placed. Condition: the body is no longer than a frame's may be.
-/
import Derived.Test.YtffhejaeliphcaaDoorMProw
import Derived.Deep.RegionWith
import Derived.Deep.Cut
namespace Go.Proofs.YtffhejaeliphcaaDoor
open Go.RowKit
set_option linter.unusedVariables false

theorem info_pl : (Tryd.prog.info? 55).map (·.size) = some 5 := by kernel_rfl
theorem ret_pl {fn : Func} {p : Tmp} {cs : Array Value} {tmps : Array Value} {w : World} {g : Nat} {e : TypeId} (h : fn.results = #[.cell p 55]) (hp : tmps.getD p undef = .pointer (some ⟨g, 0, none⟩)) (hg : w.heap[g]? = some (.cells cs e (0, 0))) (hs : cs.size = 5) :
    (results fn tmps).run Tryd.prog w = .ok (.agg cs) w :=
  results_cell_row h tmps w g e cs (0, 0) _ hp hg Tryd.underlying55 rfl (by rw [hs]; exact info_pl)
theorem new2 (w : World) (o o' : Obj) : ((w.alloc o).alloc o').drew.heap[w.heap.size + 1]? = some o' := by
  have h := World.alloc_heap_new (w.alloc o) o'
  rw [World.size_alloc] at h
  exact h

set_option maxHeartbeats 1600000 in
theorem placed_any (p kd sq : Int) (a : Option Addr) (n c : Nat) (w : World) (hn : n ≤ 16384) :
    Calls Tryd.prog 60 #[.int .i64 p, .agg #[.int .i64 kd, .int .i64 sq, .slice a n c]] w fun e w' => e = .returned (.agg #[.int .i64 p, .int .i64 (20 + (n : Int)), .int .i64 kd, .int .i64 sq, .slice a n c]) ∧ Below w.heap.size w w' := by
  have hb1 := below_made w (.cells #[.int .i64 kd, .int .i64 sq, .slice a n c] 53)
  have hb2 := below_next hb1 (below_made _ (.cells #[.int .i64 0, .int .i64 0, .int .i64 0, .int .i64 0, .slice none 0 0] 55))
  go_enter Tryd.func60, Tryd.ntmps60
  go_upto_region 1 with (fail)
  go_region_with (go_at_call 75; refine (fsize_in (n : Int) _ (by omega) (by omega)).mono ?_; rintro e w2 ⟨rfl, rfl⟩)
  all_goals go_wp2_with fail
  all_goals exact bodyPost_ret (v := .agg #[.int .i64 p, .int .i64 (20 + (n : Int)), .int .i64 kd, .int .i64 sq, .slice a n c]) (ret_pl (g := w.heap.size + 1) rfl rfl (new2 w _ _) rfl) rfl ⟨rfl, (below_next hb1 (below_made _ _)).drew⟩
end Go.Proofs.YtffhejaeliphcaaDoor
