/-
  The walk of the reference's Same of two segments that are the same, each with marks of its own. Condition: the marks of both read alike.
-/
import Derived.Test.YtffhejaeliphcaaDoorMGr
namespace Go.Proofs.YtffhejaeliphcaaDoor
open Go.RowKit
set_option linter.unusedVariables false

set_option maxHeartbeats 1600000 in
theorem rgsame_any (s : Sg) (n : Nat) (a1 : Option Addr) (c1 : Nat) (a2 : Option Addr) (c2 : Nat) (w : World) (r1 : RowAt w a1 n c1 2 (s.marks.flatMap Mk.cells)) (r2 : RowAt w a2 n c2 2 (s.marks.flatMap Mk.cells)) :
    Calls Tryd.prog 13 #[.agg (sgRow s (.slice a1 n c1)), .agg (sgRow s (.slice a2 n c2))] w fun e w' => e = .returned (.bool true) ∧ Below w.heap.size w w' := by
  have hb1 := below_made w (.cells #[.int .i64 (s.num : Int), .int .i64 (s.first : Int), .int .i64 (s.count : Int), .bool s.sealed, .int .i64 (s.stride : Int), .slice a1 n c1, .int .i64 (s.good : Int)] 27)
  have hg1 := World.alloc_heap_new w (.cells #[.int .i64 (s.num : Int), .int .i64 (s.first : Int), .int .i64 (s.count : Int), .bool s.sealed, .int .i64 (s.stride : Int), .slice a1 n c1, .int .i64 (s.good : Int)] 27)
  have hb2 := below_made (w.alloc (.cells #[.int .i64 (s.num : Int), .int .i64 (s.first : Int), .int .i64 (s.count : Int), .bool s.sealed, .int .i64 (s.stride : Int), .slice a1 n c1, .int .i64 (s.good : Int)] 27)) (.cells #[.int .i64 (s.num : Int), .int .i64 (s.first : Int), .int .i64 (s.count : Int), .bool s.sealed, .int .i64 (s.stride : Int), .slice a2 n c2, .int .i64 (s.good : Int)] 27)
  have hg2 := World.alloc_heap_new (w.alloc (.cells #[.int .i64 (s.num : Int), .int .i64 (s.first : Int), .int .i64 (s.count : Int), .bool s.sealed, .int .i64 (s.stride : Int), .slice a1 n c1, .int .i64 (s.good : Int)] 27)) (.cells #[.int .i64 (s.num : Int), .int .i64 (s.first : Int), .int .i64 (s.count : Int), .bool s.sealed, .int .i64 (s.stride : Int), .slice a2 n c2, .int .i64 (s.good : Int)] 27)
  rw [World.size_alloc] at hg2
  have hg3 := below_blk2 hb2 hg1
  have hb3 := below_next hb1 hb2
  have q1 := r1.below hb3
  have q2 := r2.below hb3
  have x0 : ((w.alloc (.cells #[.int .i64 (s.num : Int), .int .i64 (s.first : Int), .int .i64 (s.count : Int), .bool s.sealed, .int .i64 (s.stride : Int), .slice a1 n c1, .int .i64 (s.good : Int)] 27)).alloc (.cells #[.int .i64 (s.num : Int), .int .i64 (s.first : Int), .int .i64 (s.count : Int), .bool s.sealed, .int .i64 (s.stride : Int), .slice a2 n c2, .int .i64 (s.good : Int)] 27)).cell? ⟨w.heap.size, 0, none⟩ = some (.int .i64 (s.num : Int)) := cell_blk hg3 rfl
  have x1 : ((w.alloc (.cells #[.int .i64 (s.num : Int), .int .i64 (s.first : Int), .int .i64 (s.count : Int), .bool s.sealed, .int .i64 (s.stride : Int), .slice a1 n c1, .int .i64 (s.good : Int)] 27)).alloc (.cells #[.int .i64 (s.num : Int), .int .i64 (s.first : Int), .int .i64 (s.count : Int), .bool s.sealed, .int .i64 (s.stride : Int), .slice a2 n c2, .int .i64 (s.good : Int)] 27)).cell? ⟨w.heap.size, 1, none⟩ = some (.int .i64 (s.first : Int)) := cell_blk hg3 rfl
  have x2 : ((w.alloc (.cells #[.int .i64 (s.num : Int), .int .i64 (s.first : Int), .int .i64 (s.count : Int), .bool s.sealed, .int .i64 (s.stride : Int), .slice a1 n c1, .int .i64 (s.good : Int)] 27)).alloc (.cells #[.int .i64 (s.num : Int), .int .i64 (s.first : Int), .int .i64 (s.count : Int), .bool s.sealed, .int .i64 (s.stride : Int), .slice a2 n c2, .int .i64 (s.good : Int)] 27)).cell? ⟨w.heap.size, 2, none⟩ = some (.int .i64 (s.count : Int)) := cell_blk hg3 rfl
  have x3 : ((w.alloc (.cells #[.int .i64 (s.num : Int), .int .i64 (s.first : Int), .int .i64 (s.count : Int), .bool s.sealed, .int .i64 (s.stride : Int), .slice a1 n c1, .int .i64 (s.good : Int)] 27)).alloc (.cells #[.int .i64 (s.num : Int), .int .i64 (s.first : Int), .int .i64 (s.count : Int), .bool s.sealed, .int .i64 (s.stride : Int), .slice a2 n c2, .int .i64 (s.good : Int)] 27)).cell? ⟨w.heap.size, 3, none⟩ = some (.bool s.sealed) := cell_blk hg3 rfl
  have x4 : ((w.alloc (.cells #[.int .i64 (s.num : Int), .int .i64 (s.first : Int), .int .i64 (s.count : Int), .bool s.sealed, .int .i64 (s.stride : Int), .slice a1 n c1, .int .i64 (s.good : Int)] 27)).alloc (.cells #[.int .i64 (s.num : Int), .int .i64 (s.first : Int), .int .i64 (s.count : Int), .bool s.sealed, .int .i64 (s.stride : Int), .slice a2 n c2, .int .i64 (s.good : Int)] 27)).cell? ⟨w.heap.size, 4, none⟩ = some (.int .i64 (s.stride : Int)) := cell_blk hg3 rfl
  have x5 : ((w.alloc (.cells #[.int .i64 (s.num : Int), .int .i64 (s.first : Int), .int .i64 (s.count : Int), .bool s.sealed, .int .i64 (s.stride : Int), .slice a1 n c1, .int .i64 (s.good : Int)] 27)).alloc (.cells #[.int .i64 (s.num : Int), .int .i64 (s.first : Int), .int .i64 (s.count : Int), .bool s.sealed, .int .i64 (s.stride : Int), .slice a2 n c2, .int .i64 (s.good : Int)] 27)).cell? ⟨w.heap.size, 5, none⟩ = some (.slice a1 n c1) := cell_blk hg3 rfl
  have x6 : ((w.alloc (.cells #[.int .i64 (s.num : Int), .int .i64 (s.first : Int), .int .i64 (s.count : Int), .bool s.sealed, .int .i64 (s.stride : Int), .slice a1 n c1, .int .i64 (s.good : Int)] 27)).alloc (.cells #[.int .i64 (s.num : Int), .int .i64 (s.first : Int), .int .i64 (s.count : Int), .bool s.sealed, .int .i64 (s.stride : Int), .slice a2 n c2, .int .i64 (s.good : Int)] 27)).cell? ⟨w.heap.size, 6, none⟩ = some (.int .i64 (s.good : Int)) := cell_blk hg3 rfl
  have y0 : ((w.alloc (.cells #[.int .i64 (s.num : Int), .int .i64 (s.first : Int), .int .i64 (s.count : Int), .bool s.sealed, .int .i64 (s.stride : Int), .slice a1 n c1, .int .i64 (s.good : Int)] 27)).alloc (.cells #[.int .i64 (s.num : Int), .int .i64 (s.first : Int), .int .i64 (s.count : Int), .bool s.sealed, .int .i64 (s.stride : Int), .slice a2 n c2, .int .i64 (s.good : Int)] 27)).cell? ⟨w.heap.size + 1, 0, none⟩ = some (.int .i64 (s.num : Int)) := cell_blk hg2 rfl
  have y1 : ((w.alloc (.cells #[.int .i64 (s.num : Int), .int .i64 (s.first : Int), .int .i64 (s.count : Int), .bool s.sealed, .int .i64 (s.stride : Int), .slice a1 n c1, .int .i64 (s.good : Int)] 27)).alloc (.cells #[.int .i64 (s.num : Int), .int .i64 (s.first : Int), .int .i64 (s.count : Int), .bool s.sealed, .int .i64 (s.stride : Int), .slice a2 n c2, .int .i64 (s.good : Int)] 27)).cell? ⟨w.heap.size + 1, 1, none⟩ = some (.int .i64 (s.first : Int)) := cell_blk hg2 rfl
  have y2 : ((w.alloc (.cells #[.int .i64 (s.num : Int), .int .i64 (s.first : Int), .int .i64 (s.count : Int), .bool s.sealed, .int .i64 (s.stride : Int), .slice a1 n c1, .int .i64 (s.good : Int)] 27)).alloc (.cells #[.int .i64 (s.num : Int), .int .i64 (s.first : Int), .int .i64 (s.count : Int), .bool s.sealed, .int .i64 (s.stride : Int), .slice a2 n c2, .int .i64 (s.good : Int)] 27)).cell? ⟨w.heap.size + 1, 2, none⟩ = some (.int .i64 (s.count : Int)) := cell_blk hg2 rfl
  have y3 : ((w.alloc (.cells #[.int .i64 (s.num : Int), .int .i64 (s.first : Int), .int .i64 (s.count : Int), .bool s.sealed, .int .i64 (s.stride : Int), .slice a1 n c1, .int .i64 (s.good : Int)] 27)).alloc (.cells #[.int .i64 (s.num : Int), .int .i64 (s.first : Int), .int .i64 (s.count : Int), .bool s.sealed, .int .i64 (s.stride : Int), .slice a2 n c2, .int .i64 (s.good : Int)] 27)).cell? ⟨w.heap.size + 1, 3, none⟩ = some (.bool s.sealed) := cell_blk hg2 rfl
  have y4 : ((w.alloc (.cells #[.int .i64 (s.num : Int), .int .i64 (s.first : Int), .int .i64 (s.count : Int), .bool s.sealed, .int .i64 (s.stride : Int), .slice a1 n c1, .int .i64 (s.good : Int)] 27)).alloc (.cells #[.int .i64 (s.num : Int), .int .i64 (s.first : Int), .int .i64 (s.count : Int), .bool s.sealed, .int .i64 (s.stride : Int), .slice a2 n c2, .int .i64 (s.good : Int)] 27)).cell? ⟨w.heap.size + 1, 4, none⟩ = some (.int .i64 (s.stride : Int)) := cell_blk hg2 rfl
  have y5 : ((w.alloc (.cells #[.int .i64 (s.num : Int), .int .i64 (s.first : Int), .int .i64 (s.count : Int), .bool s.sealed, .int .i64 (s.stride : Int), .slice a1 n c1, .int .i64 (s.good : Int)] 27)).alloc (.cells #[.int .i64 (s.num : Int), .int .i64 (s.first : Int), .int .i64 (s.count : Int), .bool s.sealed, .int .i64 (s.stride : Int), .slice a2 n c2, .int .i64 (s.good : Int)] 27)).cell? ⟨w.heap.size + 1, 5, none⟩ = some (.slice a2 n c2) := cell_blk hg2 rfl
  have y6 : ((w.alloc (.cells #[.int .i64 (s.num : Int), .int .i64 (s.first : Int), .int .i64 (s.count : Int), .bool s.sealed, .int .i64 (s.stride : Int), .slice a1 n c1, .int .i64 (s.good : Int)] 27)).alloc (.cells #[.int .i64 (s.num : Int), .int .i64 (s.first : Int), .int .i64 (s.count : Int), .bool s.sealed, .int .i64 (s.stride : Int), .slice a2 n c2, .int .i64 (s.good : Int)] 27)).cell? ⟨w.heap.size + 1, 6, none⟩ = some (.int .i64 (s.good : Int)) := cell_blk hg2 rfl
  have hm := rmsame_any a1 n c1 s.marks a2 n c2 s.marks _ q1 q2
  rw [decide_eq_true (rfl : s.marks = s.marks)] at hm
  have HM := Lib.hid hm
  have e0 : ((s.num : Int) == (s.num : Int)) = true := by simp
  have e1 : ((s.first : Int) == (s.first : Int)) = true := by simp
  have e2 : ((s.count : Int) == (s.count : Int)) = true := by simp
  have e3 : (s.sealed == s.sealed) = true := by simp
  have e4 : ((s.stride : Int) == (s.stride : Int)) = true := by simp
  have e5 : ((s.good : Int) == (s.good : Int)) = true := by simp
  clear hm q1 q2 r1 r2 hg1 hg2 hg3 hb1 hb2
  unfold sgRow
  go_enter Tryd.func13, Tryd.ntmps13
  go_wp2_with fail
  (with_reducible refine (HM.out).mono ?_)
  rintro e w1 ⟨rfl, hst⟩
  have hb4 := below_still hb3 hst
  go_wp2_with fail
  go_ret
  exact ⟨by simp, hb4⟩
end Go.Proofs.YtffhejaeliphcaaDoor
