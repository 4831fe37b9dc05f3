/-
  The walk of the reference's Unpack. Condition: the argument reads as bytes.
-/
import Derived.Test.YtkdpingniohfhaaDoorMRdec6
namespace Go.Proofs.YtkdpingniohfhaaDoor
open Go.RowKit
set_option linter.unusedVariables false

set_option maxRecDepth 8000 in
set_option maxHeartbeats 1600000 in
theorem rdec6_none (v : Int) (a : Option Addr) (n c : Nat) (l : List UInt8) (w : World) (hv : v < 1 ∨ 5 < v) :
    Calls Tryd.prog 27 #[.int .i64 v, .slice a n c] w (GivesDE w (sdecF v l)) := by
  have HS : Hid (sdecF v l = (default, 30)) := Lib.hid (by unfold sdecF; rw [if_pos hv])
  have hbm := below_next (below_made w (.cells (default : Ev).cells 25)) (below_made (w.alloc (.cells (default : Ev).cells 25)) (.cells (default : Ev).cells 25))
  have hR := below_blk' (below_made (w.alloc (.cells (default : Ev).cells 25)) (.cells (default : Ev).cells 25)) (heap_alloc_new w (.cells (default : Ev).cells 25))
  have hN := heap_alloc_new (w.alloc (.cells (default : Ev).cells 25)) (.cells (default : Ev).cells 25)
  have hsz : (w.alloc (.cells (default : Ev).cells 25)).heap.size = w.heap.size + 1 := by simp
  rw [hsz] at hN
  have HW := Lib.hid (⟨_, rfl⟩ : ∃ w0, (w.alloc (.cells (default : Ev).cells 25)).alloc (.cells (default : Ev).cells 25) = w0)
  clear hsz
  by_cases h1 : v < 1
  all_goals
    first | (have h5 : 5 < v := by omega) | skip
    clear hv
    go_enter Tryd.func27, Tryd.ntmps27
    go_upto_region 2 with (fail)
    rw [show (#[.int .i64 0, .int .i64 0, .int .i64 0, .int .i64 0, .int .i64 0, .int .i64 0, .int .i64 0, .string ⟨#[]⟩, .int .i64 0, .string ⟨#[]⟩] : Array Value) = (default : Ev).cells from rfl]
    obtain ⟨w0, hw0⟩ := HW.out
    rw [hw0] at hbm hR hN ⊢
    clear hw0 HW
    go_wp2_with (first
      | (with_reducible refine wpList_load_row rfl 25 (.tmp 6) rfl (w.heap.size + 1) rfl _ (default : Ev).cells (0, 0) _ hN Tryd.underlying25 rfl (by with_unfolding_all exact info_ev) ?_)
      | (with_reducible refine wpList_store_row rfl 25 (.tmp 4) (.tmp 22) rfl w.heap.size (default : Ev).cells rfl rfl _ _ hR (by with_unfolding_all exact info_ev) (by with_unfolding_all exact rfl) (by with_unfolding_all exact rfl) ?_))
    refine bodyPost_ret (v := .tuple #[.agg (default : Ev).cells, .int .i64 30]) (ret_evN rfl rfl (setRow_heap _ w.heap.size _ (default : Ev).cells _ _ hR) rfl rfl) rfl ?_
    rw [HS.out]
    exact ⟨rfl, below_row hbm (Nat.le_refl _) _⟩
theorem rdec6_all (v : Int) (a : Option Addr) (n c : Nat) (l : List UInt8) (w : World) (r : RowAt w a n c 1 (l.map B)) :
    Calls Tryd.prog 27 #[.int .i64 v, .slice a n c] w (GivesDE w (sdecF v l)) := by
  by_cases hv : v < 1 ∨ 5 < v
  · exact rdec6_none v a n c l w hv
  · exact rdec6_any v (by omega) (by omega) a n c l w r

theorem set10_other {w : World} {b k : Nat} {v0 v1 v2 v3 v4 v5 v6 v7 v8 v9 : Value} (hk : k ≠ b) : ((((((((((w.setCell ⟨b, 0, none⟩ v0).setCell ⟨b, 1, none⟩ v1).setCell ⟨b, 2, none⟩ v2).setCell ⟨b, 3, none⟩ v3).setCell ⟨b, 4, none⟩ v4).setCell ⟨b, 5, none⟩ v5).setCell ⟨b, 6, none⟩ v6).setCell ⟨b, 7, none⟩ v7).setCell ⟨b, 8, none⟩ v8).setCell ⟨b, 9, none⟩ v9).heap[k]? = w.heap[k]? := by
  rw [Below.heap_setCell _ _ _ _ (show k ≠ b from hk), Below.heap_setCell _ _ _ _ (show k ≠ b from hk), Below.heap_setCell _ _ _ _ (show k ≠ b from hk), Below.heap_setCell _ _ _ _ (show k ≠ b from hk), Below.heap_setCell _ _ _ _ (show k ≠ b from hk), Below.heap_setCell _ _ _ _ (show k ≠ b from hk), Below.heap_setCell _ _ _ _ (show k ≠ b from hk), Below.heap_setCell _ _ _ _ (show k ≠ b from hk), Below.heap_setCell _ _ _ _ (show k ≠ b from hk), Below.heap_setCell _ _ _ _ (show k ≠ b from hk)]
set_option maxRecDepth 8000 in
set_option maxHeartbeats 25600000 in
theorem runp_any (a : Option Addr) (n c : Nat) (l : List UInt8) (w : World) (r : RowAt w a n c 1 (l.map B)) :
    Calls Tryd.prog 14 #[.slice a n c] w (GivesU w (unpF l)) := by
  have hbm := below_made w (.cells (default : Ev).cells 25)
  have hR := heap_alloc_new w (.cells (default : Ev).cells 25)
  have r0 := r.below hbm
  have HW := Lib.hid (⟨_, rfl⟩ : ∃ w0, w.alloc (.cells (default : Ev).cells 25) = w0)
  have hln : l.length = n := by simpa using r.len
  obtain ⟨x1, hx1⟩ : ∃ x, dec l = x := ⟨_, rfl⟩
  obtain ⟨k, q, er⟩ := x1
  have d1 := dec_bd l
  rw [hx1] at d1
  simp only at d1
  obtain ⟨d11, d12, d13, d14⟩ := d1
  have HV : Hid (decV l = .tuple #[.int .u64 (k : Int), .int .i64 (q : Int), .int .i64 (er : Int)]) := Lib.hid (by unfold decV; rw [hx1])
  have HS : Hid (unpF l = _) := Lib.hid (by unfold unpF; rw [hx1])
  simp only at HS
  have m1 := r.2.2.1
  have m2 := r.2.1
  unfold maxLen at m1
  have hqn : q ≤ n := by omega
  clear hx1 hln
  by_cases he : er = 0
  · subst he
    rw [if_neg (by simp)] at HS
    obtain ⟨a', hcut, r3⟩ := cut_from slB r0 q hqn
    rw [Nat.mul_one, ← List.map_drop] at r3
    obtain ⟨v, hv⟩ : ∃ v, clampI k = v := ⟨_, rfl⟩
    rw [hv] at HS
    have hdec := fun wx hx => rdec6_all v a' (n - q) (c - q) (l.drop q) wx hx
    obtain ⟨z, hz⟩ : ∃ z, sdecF v (l.drop q) = z := ⟨_, rfl⟩
    rw [hz] at hdec HS
    obtain ⟨⟨k0, k1, k2, k3, k4, k5, k6, k7, k8, k9⟩, ez⟩ := z
    simp only at HS
    unfold GivesDE Ev.val Ev.cells at hdec
    simp only at hdec
    have HD := Lib.hid hdec
    have HVV := Lib.hid hv
    have HC := Lib.hid (fun wx => rclamp_any k d11 wx)
    clear hv hz hdec d11
    by_cases hez : ez = 0
    · subst hez
      rw [if_neg (by simp)] at HS
      go_enter Tryd.func14, Tryd.ntmps14
      go_upto_region 1 with (fail)
      rw [show (#[.int .i64 0, .int .i64 0, .int .i64 0, .int .i64 0, .int .i64 0, .int .i64 0, .int .i64 0, .string ⟨#[]⟩, .int .i64 0, .string ⟨#[]⟩] : Array Value) = (default : Ev).cells from rfl]
      obtain ⟨w0, hw0⟩ := HW.out
      rw [hw0] at hbm hR r0 r3 ⊢
      clear hw0 HW r
      go_wp2_with fail
      (with_reducible refine (rdec_any _ _ _ l _ r0).mono ?_)
      rintro x w' ⟨rfl, rfl⟩
      rw [HV.out]
      go_wp2_with fail
      go_region_with (first
        | (go_at_call 28; refine (HC.out _).mono ?_; rintro x w' ⟨rfl, rfl⟩; rw [HVV.out])
        | (go_at_call 27; refine (HD.out _ (by first | exact r3 | exact rowAt_drew r3 | exact (rowAt_drew r3).below (below_made _ _) | exact r3.below (below_made _ _))).mono ?_; rintro x w1 ⟨rfl, hb1⟩; first | (have hZ := below_blk' hb1 (heap_alloc_new w0.drew (.cells (default : Ev).cells 25)); have z0 : w1.cell? ⟨w0.heap.size, 0, none⟩ = some (.int .i64 0) := cell_blk hZ rfl; have y0 : w1.frozen? ⟨w0.heap.size, 0, none⟩ = false := free_blk hZ; have z1 : w1.cell? ⟨w0.heap.size, 1, none⟩ = some (.int .i64 0) := cell_blk hZ rfl; have y1 : w1.frozen? ⟨w0.heap.size, 1, none⟩ = false := free_blk hZ; have z2 : w1.cell? ⟨w0.heap.size, 2, none⟩ = some (.int .i64 0) := cell_blk hZ rfl; have y2 : w1.frozen? ⟨w0.heap.size, 2, none⟩ = false := free_blk hZ; have z3 : w1.cell? ⟨w0.heap.size, 3, none⟩ = some (.int .i64 0) := cell_blk hZ rfl; have y3 : w1.frozen? ⟨w0.heap.size, 3, none⟩ = false := free_blk hZ; have z4 : w1.cell? ⟨w0.heap.size, 4, none⟩ = some (.int .i64 0) := cell_blk hZ rfl; have y4 : w1.frozen? ⟨w0.heap.size, 4, none⟩ = false := free_blk hZ; have z5 : w1.cell? ⟨w0.heap.size, 5, none⟩ = some (.int .i64 0) := cell_blk hZ rfl; have y5 : w1.frozen? ⟨w0.heap.size, 5, none⟩ = false := free_blk hZ; have z6 : w1.cell? ⟨w0.heap.size, 6, none⟩ = some (.int .i64 0) := cell_blk hZ rfl; have y6 : w1.frozen? ⟨w0.heap.size, 6, none⟩ = false := free_blk hZ; have z7 : w1.cell? ⟨w0.heap.size, 7, none⟩ = some (.string ⟨#[]⟩) := cell_blk hZ rfl; have y7 : w1.frozen? ⟨w0.heap.size, 7, none⟩ = false := free_blk hZ; have z8 : w1.cell? ⟨w0.heap.size, 8, none⟩ = some (.int .i64 0) := cell_blk hZ rfl; have y8 : w1.frozen? ⟨w0.heap.size, 8, none⟩ = false := free_blk hZ; have z9 : w1.cell? ⟨w0.heap.size, 9, none⟩ = some (.string ⟨#[]⟩) := cell_blk hZ rfl; have y9 : w1.frozen? ⟨w0.heap.size, 9, none⟩ = false := free_blk hZ) | skip))
      all_goals
        first
        | (have hZ := heap_alloc_new w1 (.cells #[.int .i64 k0, .int .i64 k1, .int .i64 k2, .int .i64 k3, .int .i64 k4, .int .i64 k5, .int .i64 k6, .string k7, .int .i64 k8, .string k9] 25)
           have hR1 := below_blk' (below_made w1 (.cells #[.int .i64 k0, .int .i64 k1, .int .i64 k2, .int .i64 k3, .int .i64 k4, .int .i64 k5, .int .i64 k6, .string k7, .int .i64 k8, .string k9] 25)) (below_blk' hb1 hR)
           have hB1 := below_next (below_next (below_next hbm ((Still.one w0 1).below _)) hb1) (below_made w1 (.cells #[.int .i64 k0, .int .i64 k1, .int .i64 k2, .int .i64 k3, .int .i64 k4, .int .i64 k5, .int .i64 k6, .string k7, .int .i64 k8, .string k9] 25))
           obtain ⟨wz, hwz⟩ : ∃ wz, w1.alloc (.cells #[.int .i64 k0, .int .i64 k1, .int .i64 k2, .int .i64 k3, .int .i64 k4, .int .i64 k5, .int .i64 k6, .string k7, .int .i64 k8, .string k9] 25) = wz := ⟨_, rfl⟩
           rw [hwz] at hZ hR1 hB1 ⊢
           obtain ⟨G, hG⟩ : ∃ G, w1.heap.size = G := ⟨_, rfl⟩
           rw [hG] at hZ ⊢)
        | (have hlR := lt_of_block hR
           have hZ := set10_blk (v0 := .int .i64 k0) (v1 := .int .i64 k1) (v2 := .int .i64 k2) (v3 := .int .i64 k3) (v4 := .int .i64 k4) (v5 := .int .i64 k5) (v6 := .int .i64 k6) (v7 := .string k7) (v8 := .int .i64 k8) (v9 := .string k9) hZ
           have hRa := below_blk' (below_made w0 (.cells (default : Ev).cells 25)) hR
           have hRb : (w0.alloc (.cells (default : Ev).cells 25)).drew.heap[w.heap.size]? = _ := hRa
           have hR1 := (set10_other (b := w0.heap.size) (v0 := .int .i64 k0) (v1 := .int .i64 k1) (v2 := .int .i64 k2) (v3 := .int .i64 k3) (v4 := .int .i64 k4) (v5 := .int .i64 k5) (v6 := .int .i64 k6) (v7 := .string k7) (v8 := .int .i64 k8) (v9 := .string k9) (by omega)).trans (below_blk' hb1 hRb)
           have hB1 := set10_below (b := w0.heap.size) (v0 := .int .i64 k0) (v1 := .int .i64 k1) (v2 := .int .i64 k2) (v3 := .int .i64 k3) (v4 := .int .i64 k4) (v5 := .int .i64 k5) (v6 := .int .i64 k6) (v7 := .string k7) (v8 := .int .i64 k8) (v9 := .string k9) (below_next (below_next (below_next hbm (below_made w0 (.cells (default : Ev).cells 25))) ((Still.one _ 1).below _)) hb1) (by have := hbm.size; omega)
           obtain ⟨wz, hwz⟩ : ∃ wz, ((((((((((w1.setCell ⟨w0.heap.size, 0, none⟩ (.int .i64 k0)).setCell ⟨w0.heap.size, 1, none⟩ (.int .i64 k1)).setCell ⟨w0.heap.size, 2, none⟩ (.int .i64 k2)).setCell ⟨w0.heap.size, 3, none⟩ (.int .i64 k3)).setCell ⟨w0.heap.size, 4, none⟩ (.int .i64 k4)).setCell ⟨w0.heap.size, 5, none⟩ (.int .i64 k5)).setCell ⟨w0.heap.size, 6, none⟩ (.int .i64 k6)).setCell ⟨w0.heap.size, 7, none⟩ (.string k7)).setCell ⟨w0.heap.size, 8, none⟩ (.int .i64 k8)).setCell ⟨w0.heap.size, 9, none⟩ (.string k9)) = wz := ⟨_, rfl⟩
           have hZ : ((((((((((w1.setCell ⟨w0.heap.size, 0, none⟩ (.int .i64 k0)).setCell ⟨w0.heap.size, 1, none⟩ (.int .i64 k1)).setCell ⟨w0.heap.size, 2, none⟩ (.int .i64 k2)).setCell ⟨w0.heap.size, 3, none⟩ (.int .i64 k3)).setCell ⟨w0.heap.size, 4, none⟩ (.int .i64 k4)).setCell ⟨w0.heap.size, 5, none⟩ (.int .i64 k5)).setCell ⟨w0.heap.size, 6, none⟩ (.int .i64 k6)).setCell ⟨w0.heap.size, 7, none⟩ (.string k7)).setCell ⟨w0.heap.size, 8, none⟩ (.int .i64 k8)).setCell ⟨w0.heap.size, 9, none⟩ (.string k9)).heap[w0.heap.size]? = _ := hZ
           rw [hwz] at hZ hR1 hB1 ⊢
           obtain ⟨G, hG⟩ : ∃ G, w0.heap.size = G := ⟨_, rfl⟩
           rw [hG] at hZ ⊢)
        simp only [Act.put, List.getElem_toArray, List.getElem_cons_succ, List.getElem_cons_zero, List.setIfInBounds_toArray, List.set_cons_succ, List.set_cons_zero]
        go_wp2_with fail
        have e0 : wz.cell? ⟨G, 0, none⟩ = some (.int .i64 k0) := cell_blk hZ rfl
        have r0 : wz.cell? ⟨w.heap.size, 0, none⟩ = some (.int .i64 0) := cell_blk hR1 rfl
        have f0 : wz.frozen? ⟨w.heap.size, 0, none⟩ = false := free_blk hR1
        have e1 : wz.cell? ⟨G, 1, none⟩ = some (.int .i64 k1) := cell_blk hZ rfl
        have r1 : wz.cell? ⟨w.heap.size, 1, none⟩ = some (.int .i64 0) := cell_blk hR1 rfl
        have f1 : wz.frozen? ⟨w.heap.size, 1, none⟩ = false := free_blk hR1
        have e2 : wz.cell? ⟨G, 2, none⟩ = some (.int .i64 k2) := cell_blk hZ rfl
        have r2 : wz.cell? ⟨w.heap.size, 2, none⟩ = some (.int .i64 0) := cell_blk hR1 rfl
        have f2 : wz.frozen? ⟨w.heap.size, 2, none⟩ = false := free_blk hR1
        have e3 : wz.cell? ⟨G, 3, none⟩ = some (.int .i64 k3) := cell_blk hZ rfl
        have r3 : wz.cell? ⟨w.heap.size, 3, none⟩ = some (.int .i64 0) := cell_blk hR1 rfl
        have f3 : wz.frozen? ⟨w.heap.size, 3, none⟩ = false := free_blk hR1
        have e4 : wz.cell? ⟨G, 4, none⟩ = some (.int .i64 k4) := cell_blk hZ rfl
        have r4 : wz.cell? ⟨w.heap.size, 4, none⟩ = some (.int .i64 0) := cell_blk hR1 rfl
        have f4 : wz.frozen? ⟨w.heap.size, 4, none⟩ = false := free_blk hR1
        have e5 : wz.cell? ⟨G, 5, none⟩ = some (.int .i64 k5) := cell_blk hZ rfl
        have r5 : wz.cell? ⟨w.heap.size, 5, none⟩ = some (.int .i64 0) := cell_blk hR1 rfl
        have f5 : wz.frozen? ⟨w.heap.size, 5, none⟩ = false := free_blk hR1
        have e6 : wz.cell? ⟨G, 6, none⟩ = some (.int .i64 k6) := cell_blk hZ rfl
        have r6 : wz.cell? ⟨w.heap.size, 6, none⟩ = some (.int .i64 0) := cell_blk hR1 rfl
        have f6 : wz.frozen? ⟨w.heap.size, 6, none⟩ = false := free_blk hR1
        have e7 : wz.cell? ⟨G, 7, none⟩ = some (.string k7) := cell_blk hZ rfl
        have r7 : wz.cell? ⟨w.heap.size, 7, none⟩ = some (.string ⟨#[]⟩) := cell_blk hR1 rfl
        have f7 : wz.frozen? ⟨w.heap.size, 7, none⟩ = false := free_blk hR1
        have e8 : wz.cell? ⟨G, 8, none⟩ = some (.int .i64 k8) := cell_blk hZ rfl
        have r8 : wz.cell? ⟨w.heap.size, 8, none⟩ = some (.int .i64 0) := cell_blk hR1 rfl
        have f8 : wz.frozen? ⟨w.heap.size, 8, none⟩ = false := free_blk hR1
        have e9 : wz.cell? ⟨G, 9, none⟩ = some (.string k9) := cell_blk hZ rfl
        have r9 : wz.cell? ⟨w.heap.size, 9, none⟩ = some (.string ⟨#[]⟩) := cell_blk hR1 rfl
        have f9 : wz.frozen? ⟨w.heap.size, 9, none⟩ = false := free_blk hR1
        go_region_with (first
          | (go_at_call 28; refine (HC.out _).mono ?_; rintro x w' ⟨rfl, rfl⟩; rw [HVV.out]))
        all_goals
          simp only [Act.put, List.getElem_toArray, List.getElem_cons_succ, List.getElem_cons_zero, List.setIfInBounds_toArray, List.set_cons_succ, List.set_cons_zero]
          have hR3 := set10_blk (v0 := .int .i64 k0) (v1 := .int .i64 k1) (v2 := .int .i64 k2) (v3 := .int .i64 k3) (v4 := .int .i64 k4) (v5 := .int .i64 k5) (v6 := .int .i64 k6) (v7 := .string k7) (v8 := .int .i64 k8) (v9 := .string k9) hR1
          have hB3 := set10_below (v0 := .int .i64 k0) (v1 := .int .i64 k1) (v2 := .int .i64 k2) (v3 := .int .i64 k3) (v4 := .int .i64 k4) (v5 := .int .i64 k5) (v6 := .int .i64 k6) (v7 := .string k7) (v8 := .int .i64 k8) (v9 := .string k9) hB1 (Nat.le_refl _)
          obtain ⟨w4, hw4⟩ : ∃ w4, ((((((((((wz.setCell ⟨w.heap.size, 0, none⟩ (.int .i64 k0)).setCell ⟨w.heap.size, 1, none⟩ (.int .i64 k1)).setCell ⟨w.heap.size, 2, none⟩ (.int .i64 k2)).setCell ⟨w.heap.size, 3, none⟩ (.int .i64 k3)).setCell ⟨w.heap.size, 4, none⟩ (.int .i64 k4)).setCell ⟨w.heap.size, 5, none⟩ (.int .i64 k5)).setCell ⟨w.heap.size, 6, none⟩ (.int .i64 k6)).setCell ⟨w.heap.size, 7, none⟩ (.string k7)).setCell ⟨w.heap.size, 8, none⟩ (.int .i64 k8)).setCell ⟨w.heap.size, 9, none⟩ (.string k9)) = w4 := ⟨_, rfl⟩
          rw [hw4] at hR3 hB3 ⊢
          have hR4 : w4.drew.heap[w.heap.size]? = _ := hR3
          clear hw4 hR3 hR1 hZ hB1 e0 r0 f0 e1 r1 f1 e2 r2 f2 e3 r3 f3 e4 r4 f4 e5 r5 f5 e6 r6 f6 e7 r7 f7 e8 r8 f8 e9 r9 f9
          go_wp2_with fail
          refine bodyPost_ret (v := .tuple #[.int .i64 v, .agg #[.int .i64 k0, .int .i64 k1, .int .i64 k2, .int .i64 k3, .int .i64 k4, .int .i64 k5, .int .i64 k6, .string k7, .int .i64 k8, .string k9], .int .i64 0]) (ret_evU rfl rfl hR4 rfl rfl rfl) rfl ?_
          rw [HS.out]
          exact ⟨rfl, hB3.trans ((Still.one w4 1).below _)⟩
    · have hez' : (ez != 0) = true := by rw [bne_iff_ne]; exact hez
      rw [if_pos hez] at HS
      clear hez
      go_enter Tryd.func14, Tryd.ntmps14
      go_upto_region 1 with (fail)
      rw [show (#[.int .i64 0, .int .i64 0, .int .i64 0, .int .i64 0, .int .i64 0, .int .i64 0, .int .i64 0, .string ⟨#[]⟩, .int .i64 0, .string ⟨#[]⟩] : Array Value) = (default : Ev).cells from rfl]
      obtain ⟨w0, hw0⟩ := HW.out
      rw [hw0] at hbm hR r0 r3 ⊢
      clear hw0 HW r
      go_wp2_with fail
      (with_reducible refine (rdec_any _ _ _ l _ r0).mono ?_)
      rintro x w' ⟨rfl, rfl⟩
      rw [HV.out]
      go_wp2_with fail
      go_region_with (first
        | (go_at_call 28; refine (HC.out _).mono ?_; rintro x w' ⟨rfl, rfl⟩; rw [HVV.out])
        | (go_at_call 27; refine (HD.out _ (by first | exact r3 | exact rowAt_drew r3 | exact (rowAt_drew r3).below (below_made _ _) | exact r3.below (below_made _ _))).mono ?_; rintro x w1 ⟨rfl, hb1⟩; first | (have hZ := below_blk' hb1 (heap_alloc_new w0.drew (.cells (default : Ev).cells 25)); have z0 : w1.cell? ⟨w0.heap.size, 0, none⟩ = some (.int .i64 0) := cell_blk hZ rfl; have y0 : w1.frozen? ⟨w0.heap.size, 0, none⟩ = false := free_blk hZ; have z1 : w1.cell? ⟨w0.heap.size, 1, none⟩ = some (.int .i64 0) := cell_blk hZ rfl; have y1 : w1.frozen? ⟨w0.heap.size, 1, none⟩ = false := free_blk hZ; have z2 : w1.cell? ⟨w0.heap.size, 2, none⟩ = some (.int .i64 0) := cell_blk hZ rfl; have y2 : w1.frozen? ⟨w0.heap.size, 2, none⟩ = false := free_blk hZ; have z3 : w1.cell? ⟨w0.heap.size, 3, none⟩ = some (.int .i64 0) := cell_blk hZ rfl; have y3 : w1.frozen? ⟨w0.heap.size, 3, none⟩ = false := free_blk hZ; have z4 : w1.cell? ⟨w0.heap.size, 4, none⟩ = some (.int .i64 0) := cell_blk hZ rfl; have y4 : w1.frozen? ⟨w0.heap.size, 4, none⟩ = false := free_blk hZ; have z5 : w1.cell? ⟨w0.heap.size, 5, none⟩ = some (.int .i64 0) := cell_blk hZ rfl; have y5 : w1.frozen? ⟨w0.heap.size, 5, none⟩ = false := free_blk hZ; have z6 : w1.cell? ⟨w0.heap.size, 6, none⟩ = some (.int .i64 0) := cell_blk hZ rfl; have y6 : w1.frozen? ⟨w0.heap.size, 6, none⟩ = false := free_blk hZ; have z7 : w1.cell? ⟨w0.heap.size, 7, none⟩ = some (.string ⟨#[]⟩) := cell_blk hZ rfl; have y7 : w1.frozen? ⟨w0.heap.size, 7, none⟩ = false := free_blk hZ; have z8 : w1.cell? ⟨w0.heap.size, 8, none⟩ = some (.int .i64 0) := cell_blk hZ rfl; have y8 : w1.frozen? ⟨w0.heap.size, 8, none⟩ = false := free_blk hZ; have z9 : w1.cell? ⟨w0.heap.size, 9, none⟩ = some (.string ⟨#[]⟩) := cell_blk hZ rfl; have y9 : w1.frozen? ⟨w0.heap.size, 9, none⟩ = false := free_blk hZ) | skip))
      all_goals
        first
        | (have hZ := heap_alloc_new w1 (.cells #[.int .i64 k0, .int .i64 k1, .int .i64 k2, .int .i64 k3, .int .i64 k4, .int .i64 k5, .int .i64 k6, .string k7, .int .i64 k8, .string k9] 25)
           have hR1 := below_blk' (below_made w1 (.cells #[.int .i64 k0, .int .i64 k1, .int .i64 k2, .int .i64 k3, .int .i64 k4, .int .i64 k5, .int .i64 k6, .string k7, .int .i64 k8, .string k9] 25)) (below_blk' hb1 hR)
           have hB1 := below_next (below_next (below_next hbm ((Still.one w0 1).below _)) hb1) (below_made w1 (.cells #[.int .i64 k0, .int .i64 k1, .int .i64 k2, .int .i64 k3, .int .i64 k4, .int .i64 k5, .int .i64 k6, .string k7, .int .i64 k8, .string k9] 25))
           obtain ⟨wz, hwz⟩ : ∃ wz, w1.alloc (.cells #[.int .i64 k0, .int .i64 k1, .int .i64 k2, .int .i64 k3, .int .i64 k4, .int .i64 k5, .int .i64 k6, .string k7, .int .i64 k8, .string k9] 25) = wz := ⟨_, rfl⟩
           rw [hwz] at hZ hR1 hB1 ⊢
           obtain ⟨G, hG⟩ : ∃ G, w1.heap.size = G := ⟨_, rfl⟩
           rw [hG] at hZ ⊢)
        | (have hlR := lt_of_block hR
           have hZ := set10_blk (v0 := .int .i64 k0) (v1 := .int .i64 k1) (v2 := .int .i64 k2) (v3 := .int .i64 k3) (v4 := .int .i64 k4) (v5 := .int .i64 k5) (v6 := .int .i64 k6) (v7 := .string k7) (v8 := .int .i64 k8) (v9 := .string k9) hZ
           have hRa := below_blk' (below_made w0 (.cells (default : Ev).cells 25)) hR
           have hRb : (w0.alloc (.cells (default : Ev).cells 25)).drew.heap[w.heap.size]? = _ := hRa
           have hR1 := (set10_other (b := w0.heap.size) (v0 := .int .i64 k0) (v1 := .int .i64 k1) (v2 := .int .i64 k2) (v3 := .int .i64 k3) (v4 := .int .i64 k4) (v5 := .int .i64 k5) (v6 := .int .i64 k6) (v7 := .string k7) (v8 := .int .i64 k8) (v9 := .string k9) (by omega)).trans (below_blk' hb1 hRb)
           have hB1 := set10_below (b := w0.heap.size) (v0 := .int .i64 k0) (v1 := .int .i64 k1) (v2 := .int .i64 k2) (v3 := .int .i64 k3) (v4 := .int .i64 k4) (v5 := .int .i64 k5) (v6 := .int .i64 k6) (v7 := .string k7) (v8 := .int .i64 k8) (v9 := .string k9) (below_next (below_next (below_next hbm (below_made w0 (.cells (default : Ev).cells 25))) ((Still.one _ 1).below _)) hb1) (by have := hbm.size; omega)
           obtain ⟨wz, hwz⟩ : ∃ wz, ((((((((((w1.setCell ⟨w0.heap.size, 0, none⟩ (.int .i64 k0)).setCell ⟨w0.heap.size, 1, none⟩ (.int .i64 k1)).setCell ⟨w0.heap.size, 2, none⟩ (.int .i64 k2)).setCell ⟨w0.heap.size, 3, none⟩ (.int .i64 k3)).setCell ⟨w0.heap.size, 4, none⟩ (.int .i64 k4)).setCell ⟨w0.heap.size, 5, none⟩ (.int .i64 k5)).setCell ⟨w0.heap.size, 6, none⟩ (.int .i64 k6)).setCell ⟨w0.heap.size, 7, none⟩ (.string k7)).setCell ⟨w0.heap.size, 8, none⟩ (.int .i64 k8)).setCell ⟨w0.heap.size, 9, none⟩ (.string k9)) = wz := ⟨_, rfl⟩
           have hZ : ((((((((((w1.setCell ⟨w0.heap.size, 0, none⟩ (.int .i64 k0)).setCell ⟨w0.heap.size, 1, none⟩ (.int .i64 k1)).setCell ⟨w0.heap.size, 2, none⟩ (.int .i64 k2)).setCell ⟨w0.heap.size, 3, none⟩ (.int .i64 k3)).setCell ⟨w0.heap.size, 4, none⟩ (.int .i64 k4)).setCell ⟨w0.heap.size, 5, none⟩ (.int .i64 k5)).setCell ⟨w0.heap.size, 6, none⟩ (.int .i64 k6)).setCell ⟨w0.heap.size, 7, none⟩ (.string k7)).setCell ⟨w0.heap.size, 8, none⟩ (.int .i64 k8)).setCell ⟨w0.heap.size, 9, none⟩ (.string k9)).heap[w0.heap.size]? = _ := hZ
           rw [hwz] at hZ hR1 hB1 ⊢
           obtain ⟨G, hG⟩ : ∃ G, w0.heap.size = G := ⟨_, rfl⟩
           rw [hG] at hZ ⊢)
        simp only [Act.put, List.getElem_toArray, List.getElem_cons_succ, List.getElem_cons_zero, List.setIfInBounds_toArray, List.set_cons_succ, List.set_cons_zero]
        clear hZ
        go_wp2_with (with_reducible refine wpList_store_row rfl 25 (.tmp 3) (.tmp 30) rfl w.heap.size (default : Ev).cells rfl rfl _ _ hR1 (by with_unfolding_all exact info_ev) (by with_unfolding_all exact rfl) (by with_unfolding_all exact rfl) ?_)
        refine bodyPost_ret (v := .tuple #[.int .i64 0, .agg (default : Ev).cells, .int .i64 ez]) (ret_evU rfl rfl (setRow_heap _ w.heap.size _ (default : Ev).cells _ _ hR1) rfl rfl rfl) rfl ?_
        rw [HS.out]
        exact ⟨rfl, below_row hB1 (Nat.le_refl _) _⟩
  · have he' : ((er : Int) != 0) = true := by rw [bne_iff_ne]; omega
    rw [if_pos he] at HS
    clear he
    go_enter Tryd.func14, Tryd.ntmps14
    go_upto_region 1 with (fail)
    rw [show (#[.int .i64 0, .int .i64 0, .int .i64 0, .int .i64 0, .int .i64 0, .int .i64 0, .int .i64 0, .string ⟨#[]⟩, .int .i64 0, .string ⟨#[]⟩] : Array Value) = (default : Ev).cells from rfl]
    obtain ⟨w0, hw0⟩ := HW.out
    rw [hw0] at hbm hR r0 ⊢
    clear hw0 HW r
    go_wp2_with fail
    (with_reducible refine (rdec_any _ _ _ l _ r0).mono ?_)
    rintro x w' ⟨rfl, rfl⟩
    rw [HV.out]
    go_wp2_with (with_reducible refine wpList_store_row rfl 25 (.tmp 3) (.tmp 17) rfl w.heap.size (default : Ev).cells rfl rfl _ _ hR (by with_unfolding_all exact info_ev) (by with_unfolding_all exact rfl) (by with_unfolding_all exact rfl) ?_)
    refine bodyPost_ret (v := .tuple #[.int .i64 0, .agg (default : Ev).cells, .int .i64 (er : Int)]) (ret_evU rfl rfl (setRow_heap _ w.heap.size _ (default : Ev).cells _ _ hR) rfl rfl rfl) rfl ?_
    rw [HS.out]
    exact ⟨rfl, below_row hbm (Nat.le_refl _) _⟩
end Go.Proofs.YtkdpingniohfhaaDoor
