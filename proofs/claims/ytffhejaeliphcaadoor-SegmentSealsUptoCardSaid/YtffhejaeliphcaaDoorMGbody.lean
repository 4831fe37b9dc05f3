/-
  The walk of the body of a footer, by the program. Conditions: the numbers are small; the marks read as marks.
-/
import Derived.Test.YtffhejaeliphcaaDoorMGsc
import Derived.Test.YtffhejaeliphcaaDoorMHwalk
namespace Go.Proofs.YtffhejaeliphcaaDoor
open Go.RowKit
set_option linter.unusedVariables false

theorem nums_three (a b c : Nat) (X : List UInt8) : numsN [a, b, c] ++ X = twoN a b ++ enc c ++ X := by simp [numsN, twoN]

set_option maxHeartbeats 1600000 in
theorem gbody_any (y cnt t : Nat) (a : Option Addr) (n c : Nat) (ms : List Mk) (w : World) (hy : y ≤ 2199023255552) (hc : cnt ≤ 2199023255552) (ht : t ≤ 2199023255552) (r : RowAt w a n c 2 (ms.flatMap Mk.cells)) :
    Calls Tryd.prog 43 #[.agg (clRow y cnt t (.slice a n c))] w (GivesB 5 w (footB y cnt t ms)) := by
  have hm1 := below_made w (.cells (clRow y cnt t (.slice a n c)) 84)
  have hg1 := World.alloc_heap_new w (.cells (clRow y cnt t (.slice a n c)) 84)
  have r1 := r.below hm1
  have hx := encIx_bd ms
  obtain ⟨X, hX⟩ : ∃ X, encIx ms = X := ⟨_, rfl⟩
  have hi := ienc_any a n c ms _ r1
  rw [hX] at hi hx
  obtain ⟨X, ex⟩ := X
  simp only at hx
  have HX := Lib.hid hX
  have HI := Lib.hid hi
  unfold clRow at hm1 hg1 HI ⊢
  have hu : ∀ u ∈ [y, cnt, t], u < 9223372036854775808 := by
    intro u h
    simp at h
    omega
  have hnl := numsN_len [y, cnt, t] hu
  obtain ⟨N, hN⟩ : ∃ N, numsN [y, cnt, t] = N := ⟨_, rfl⟩
  rw [hN] at hnl
  have hnl2 : N.length ≤ 30 := hnl
  have HN := Lib.hid hN
  have HU := Lib.hid hu
  clear hi hX r r1 hN hnl hu
  have k0 : (w.alloc (.cells #[.int .i64 (y : Int), .int .i64 (cnt : Int), .int .i64 (t : Int), .slice a n c] 84)).cell? ⟨w.heap.size, 3, none⟩ = some (.slice a n c) := cell_blk hg1 rfl
  go_enter Tryd.func43, Tryd.ntmps43
  go_wp2_with fail
  (with_reducible refine (HI.out).mono ?_)
  rintro e w2 ⟨a2, c2, rfl, ho2, hb2⟩
  simp only at ho2 ⊢
  have hg2 := below_blk2 hb2 hg1
  have hc2 := below_next hm1 hb2
  have j0 : w2.cell? ⟨w.heap.size, 0, none⟩ = some (.int .i64 (y : Int)) := cell_blk hg2 rfl
  have j1 : w2.cell? ⟨w.heap.size, 1, none⟩ = some (.int .i64 (cnt : Int)) := cell_blk hg2 rfl
  have j2 : w2.cell? ⟨w.heap.size, 2, none⟩ = some (.int .i64 (t : Int)) := cell_blk hg2 rfl
  have rs := rowAt_lit w2 [I y, I cnt, I t] 3 1 3 rfl (by decide)
  have hm3 := below_made w2 (.cells #[.int .i64 (y : Int), .int .i64 (cnt : Int), .int .i64 (t : Int)] 3)
  have hnm := nums_any (some ⟨w2.heap.size, 0, none⟩) 3 3 [y, cnt, t] (w2.alloc (.cells #[.int .i64 (y : Int), .int .i64 (cnt : Int), .int .i64 (t : Int)] 3)) HU.out (by decide) rs
  rw [HN.out] at hnm
  have HNM := Lib.hid hnm
  have hlt := ho2.lt
  have hs1 := hm1.size
  have hsc := hc2.size
  clear hnm rs hb2 hg1 hg2 k0
  go_wp2_with fail
  (with_reducible refine (HNM.out).mono ?_)
  rintro e w4 ⟨a4, c4, rfl, ho4, hb4⟩
  have hb5 := below_next hm3 hb4
  have ho5 := own_below ho2 hb5
  have hc5 := below_next hc2 hb5
  have hs4 := hb4.size
  clear j0 j1 j2 hb4 hc2 hm3 HNM ho2
  go_wp2_with (at_builtin; refine wpList_app rfl _ _ 22 rfl slB rfl ho4 rfl (own_rowAt ho5) (B_one _) (by omega) hs4 fun a6 c6 w6 ho6 hg6 => ?_)
  go_ret
  have e : footB y cnt t ms = N ++ X := by unfold footB; rw [HX.out, ← nums_three, HN.out]
  have hs9 : w.heap.size ≤ (w2.alloc (.cells #[.int .i64 (y : Int), .int .i64 (cnt : Int), .int .i64 (t : Int)] 3)).heap.size := by simp; omega
  refine ⟨a6, c6, ?_, ?_, hc5.grown hg6 hc5.size (fun k hk => by have := own_block ho4 k hk; omega)⟩
  · rw [e, List.length_append]; rfl
  · rw [e, List.length_append, List.map_append]; exact own_mono ho6 hs9
end Go.Proofs.YtffhejaeliphcaaDoor
