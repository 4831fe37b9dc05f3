/-
  The walk of SegmentScans. Conditions: the argument reads as bytes, within the statement's own bound; the program's table of nibbles holds what its text lays.
-/
import Derived.Test.YtffhejaeliphcaaDoorMGrsame
import Derived.Test.YtffhejaeliphcaaDoorMHh
import Derived.Test.YtffhejaeliphcaaDoorMPsame
namespace Go.Proofs.YtffhejaeliphcaaDoor
open Go.RowKit
set_option linter.unusedVariables false

set_option maxRecDepth 8000 in
set_option maxHeartbeats 1600000 in
theorem gscans_walk (a : Option Addr) (n c : Nat) (l : List UInt8) (w : World) (r : RowAt w a n c 1 (l.map B)) (hs : n ≤ 1048576) (ht : Tab w) :
    Calls Tryd.prog 3 #[.slice a n c] w fun e w' => e = .returned (.bool true) ∧ Below w.heap.size w w' := by
  have hml : l.length = n := by simpa using r.len
  have HL := Lib.hid hml
  have hn40 : n ≤ 1099511627776 := Nat.le_trans hs (by decide)
  clear hml
  obtain ⟨y, hy⟩ : ∃ y, scanS l = y := ⟨_, rfl⟩
  obtain ⟨s, P, er⟩ := y
  have HS := Lib.hid hy
  clear hy
  go_enter Tryd.func3, Tryd.ntmps3
  go_wp2_with fail
  (with_reducible refine (hhead_any _ ht).mono ?_)
  rintro e w1 ⟨rfl, hb1⟩
  have r1 := r.below hb1
  have t1 := ht.below hb1
  go_wp2_with fail
  (with_reducible refine (copy_any _ _ _ l _ (by omega) r1).mono ?_)
  rintro e w2 ⟨a2, c2, rfl, ho2, hb2⟩
  rw [HL.out] at ho2 ⊢
  have q2 := own_rowAt ho2
  have r2 := r1.below hb2
  have t2 := t1.below hb2
  have hc2 := below_next hb1 hb2
  clear ho2 hb1 hb2 r1 t1
  go_wp2_with fail
  (with_reducible refine (rscan_any a n c l _ hn40 r2).mono ?_)
  rintro e w3 ⟨zs, az, cz, amz, cmz, hzq, rfl, hpz, homz, hb3⟩
  rw [HS.out] at hzq homz ⊢
  simp only at hzq homz ⊢
  have q3 := q2.below hb3
  have r3 := r2.below hb3
  have t3 := t2.below hb3
  have hc3 := below_next hc2 hb3
  have hm4 := below_made w3 (.cells (sgRow s (.slice amz s.marks.length cmz)) 27)
  have hg4 := World.alloc_heap_new w3 (.cells (sgRow s (.slice amz s.marks.length cmz)) 27)
  have q4 := q3.below hm4
  have r4 := r3.below hm4
  have t4 := t3.below hm4
  have hc4 := below_next hc3 hm4
  have p4 := (hpz.rd rfl).below hm4
  have z4 := (own_rowAt homz).below hm4
  unfold sgRow at hm4 hg4 q4 r4 t4 hc4 p4 z4 ⊢
  clear hc2 q2 r2 t2 hb3 q3 r3 t3 hc3 hpz homz
  go_wp2_with fail
  (with_reducible refine (sscan_any a2 n c2 l _ hn40 q4 t4).mono ?_)
  rintro e w5 ⟨xs, ax, cx, amx, cmx, hxq, rfl, hpx, homx, hb5⟩
  rw [HS.out] at hxq homx ⊢
  simp only at hxq homx ⊢
  have hm6 := below_made w5 (.cells (sgRow s (.slice amx s.marks.length cmx)) 27)
  have hg6 := World.alloc_heap_new w5 (.cells (sgRow s (.slice amx s.marks.length cmx)) 27)
  have hb6 := below_next hb5 hm6
  have hg46 := below_blk2 hb6 hg4
  have q6 := q4.below hb6
  have r6 := r4.below hb6
  have hc6 := below_next hc4 hb6
  have p6 := p4.below hb6
  have z6 := z4.below hb6
  have px6 := (hpx.rd rfl).below hm6
  have x6 := (own_rowAt homx).below hm6
  have HE : Hid (xs.map It.q == zs.map It.q) := Lib.hid (by rw [hxq, hzq]; exact beq_self_eq_true _)
  unfold sgRow at hm6 hg6 hb6 hg46 q6 r6 hc6 p6 z6 px6 x6 ⊢
  obtain ⟨W6, hW6⟩ : ∃ W6, w5.alloc (.cells #[.int .i64 (s.num : Int), .int .i64 (s.first : Int), .int .i64 (s.count : Int), .bool s.sealed, .int .i64 (s.stride : Int), .slice amx s.marks.length cmx, .int .i64 (s.good : Int)] 27) = W6 := ⟨_, rfl⟩
  have e0 : ((er : Int) == (er : Int)) = true := by simp
  rw [hW6] at hg6 hg46 q6 r6 hc6 p6 z6 px6 x6
  have i0 : W6.cell? ⟨w5.heap.size, 0, none⟩ = some (.int .i64 (s.num : Int)) := cell_blk hg6 rfl
  have i1 : W6.cell? ⟨w5.heap.size, 1, none⟩ = some (.int .i64 (s.first : Int)) := cell_blk hg6 rfl
  have i2 : W6.cell? ⟨w5.heap.size, 2, none⟩ = some (.int .i64 (s.count : Int)) := cell_blk hg6 rfl
  have i3 : W6.cell? ⟨w5.heap.size, 3, none⟩ = some (.bool s.sealed) := cell_blk hg6 rfl
  have i4 : W6.cell? ⟨w5.heap.size, 4, none⟩ = some (.int .i64 (s.stride : Int)) := cell_blk hg6 rfl
  have i5 : W6.cell? ⟨w5.heap.size, 5, none⟩ = some (.slice amx s.marks.length cmx) := cell_blk hg6 rfl
  have i6 : W6.cell? ⟨w5.heap.size, 6, none⟩ = some (.int .i64 (s.good : Int)) := cell_blk hg6 rfl
  have j0 : W6.cell? ⟨w3.heap.size, 0, none⟩ = some (.int .i64 (s.num : Int)) := cell_blk hg46 rfl
  have j1 : W6.cell? ⟨w3.heap.size, 1, none⟩ = some (.int .i64 (s.first : Int)) := cell_blk hg46 rfl
  have j2 : W6.cell? ⟨w3.heap.size, 2, none⟩ = some (.int .i64 (s.count : Int)) := cell_blk hg46 rfl
  have j3 : W6.cell? ⟨w3.heap.size, 3, none⟩ = some (.bool s.sealed) := cell_blk hg46 rfl
  have j4 : W6.cell? ⟨w3.heap.size, 4, none⟩ = some (.int .i64 (s.stride : Int)) := cell_blk hg46 rfl
  have j5 : W6.cell? ⟨w3.heap.size, 5, none⟩ = some (.slice amz s.marks.length cmz) := cell_blk hg46 rfl
  have j6 : W6.cell? ⟨w3.heap.size, 6, none⟩ = some (.int .i64 (s.good : Int)) := cell_blk hg46 rfl
  clear hg4 q4 r4 t4 hc4 p4 z4 hm4 hm6 hg6 hg46 hb6 hb5 hpx homx hzq hxq
  have hgs := rgsame_any s s.marks.length amx cmx amz cmz W6 x6 z6
  unfold sgRow at hgs
  have HGS := Lib.hid hgs
  clear hgs
  go_wp2_with fail
  (with_reducible refine (HGS.out).mono ?_)
  rintro e w7 ⟨rfl, hb7⟩
  have q7 := q6.below hb7
  have r7 := r6.below hb7
  have hc7 := below_next hc6 hb7
  have p7 := p6.below hb7
  have px7 := px6.below hb7
  clear i0 i1 i2 i3 i4 i5 i6 j0 j1 j2 j3 j4 j5 j6 q6 r6 hc6 p6 px6 z6 x6 hW6
  go_wp2_with fail
  (with_reducible refine (psame_any _ _ _ xs _ _ _ zs _ px7 p7).mono ?_)
  rintro e w8 ⟨rfl, hb8⟩
  rw [HE.out]
  have q8 := q7.below hb8
  have r8 := r7.below hb8
  have hc8 := below_next hc7 hb8
  clear q7 r7 hc7 p7 px7
  go_wp2_with fail
  (with_reducible refine (same_any _ _ _ l _ _ _ l _ q8 r8).mono ?_)
  rintro e w9 ⟨rfl, hst⟩
  rw [beq_self_eq_true]
  have hc9 := below_still hc8 hst
  go_wp2_with fail
  go_ret
  exact ⟨rfl, hc9⟩
end Go.Proofs.YtffhejaeliphcaaDoor
