/-
  The walks of the reference's Step, version by version, printed by genrstep.py. Condition: a right event of the version.
-/
import Derived.Test.YtkdpingniohfhaaDoorMUrise
namespace Go.Proofs.YtkdpingniohfhaaDoor
open Go.RowKit
set_option linter.unusedVariables false

theorem EvB.put {w : World} {b c o : Nat} {e : Ev} {v : Value} (h : EvB w c e) (hb : c ≠ b) : EvB (w.setCell ⟨b, o, none⟩ v) c e := h.turned (grown_set _ _ _ _) hb
theorem EvB.lit {w : World} {b : Nat} {e : Ev} (h : EvB w b e) : w.heap[b]? = some (.cells #[.int .i64 e.kind, .int .i64 e.order, .int .i64 e.item, .int .i64 e.qty, .int .i64 e.price, .int .i64 e.cur, .int .i64 e.tax, .string e.who, .int .i64 e.stamp, .string e.note] 25 (0, 0)) := h
theorem three_new (w : World) (e f : Ev) : EvB (((w.alloc (.cells e.cells 25)).alloc (.cells f.cells 25)).alloc (.cells e.cells 25)) w.heap.size e ∧ EvB (((w.alloc (.cells e.cells 25)).alloc (.cells f.cells 25)).alloc (.cells e.cells 25)) (w.heap.size + 1) f ∧ EvB (((w.alloc (.cells e.cells 25)).alloc (.cells f.cells 25)).alloc (.cells e.cells 25)) (w.heap.size + 2) e ∧ Below w.heap.size w (((w.alloc (.cells e.cells 25)).alloc (.cells f.cells 25)).alloc (.cells e.cells 25)) := by
  obtain ⟨h1, h2, h3, h4⟩ := two_new w e f
  have hb := below_made ((w.alloc (.cells e.cells 25)).alloc (.cells f.cells 25)) (.cells e.cells 25)
  have h := evB_new ((w.alloc (.cells e.cells 25)).alloc (.cells f.cells 25)) e
  rw [← h4] at h
  exact ⟨h1.below hb, h2.below hb, h, below_next h3 hb⟩

set_option maxHeartbeats 1600000 in
theorem rstep1_all (e : Ev) (w : World) (p1 : 0 ≤ e.price) (p2 : e.price ≤ 1000000) : Calls Tryd.prog 30 #[.int .i64 1, e.val] w fun x w' => x = .returned (e.up 1).val ∧ Below w.heap.size w w' := by
  have hw : wrap64 (100 * e.price) = 100 * e.price := w64 (by omega) (by omega)
  have HE : Hid (Value.agg (e.cells.setIfInBounds 4 (.int .i64 (100 * e.price))) = .agg (e.up 1).cells) := Lib.hid (by rw [Int.mul_comm]; rfl)
  obtain ⟨hE0, hR0, hab0, hsz⟩ := two_new w e zeroEv
  have HW := Lib.hid (⟨_, rfl⟩ : ∃ wm, (w.alloc (.cells e.cells 25)).alloc (.cells zeroEv.cells 25) = wm)
  unfold Ev.val
  go_enter Tryd.func30, Tryd.ntmps30
  go_upto_region 1 with (fail)
  rw [show (#[.int .i64 0, .int .i64 0, .int .i64 0, .int .i64 0, .int .i64 0, .int .i64 0, .int .i64 0, .string ⟨#[]⟩, .int .i64 0, .string ⟨#[]⟩] : Array Value) = zeroEv.cells from rfl]
  obtain ⟨wn, hwn⟩ := HW.out
  rw [hwn] at hE0 hR0 hab0 hsz ⊢
  clear hwn HW
  have hbm := below_made wn (.cells e.cells 25)
  have hE := hE0.below hbm
  have hR := hR0.below hbm
  have hF := evB_new wn e
  have hab := below_next hab0 hbm
  go_upto_region 2 with (first
    | (with_reducible refine wpList_load_row rfl 25 (.tmp 3) rfl w.heap.size rfl _ #[.int .i64 e.kind, .int .i64 e.order, .int .i64 e.item, .int .i64 e.qty, .int .i64 e.price, .int .i64 e.cur, .int .i64 e.tax, .string e.who, .int .i64 e.stamp, .string e.note] (0, 0) _ hE0.lit Tryd.underlying25 rfl (by with_unfolding_all exact info_ev) ?_))
  rw [show (#[.int .i64 e.kind, .int .i64 e.order, .int .i64 e.item, .int .i64 e.qty, .int .i64 e.price, .int .i64 e.cur, .int .i64 e.tax, .string e.who, .int .i64 e.stamp, .string e.note] : Array Value) = e.cells from rfl]
  have hws : wn.heap.size = w.heap.size + 2 := hsz.symm
  rw [hws] at hF ⊢
  obtain ⟨wm, hwm⟩ : ∃ wm, wn.alloc (.cells e.cells 25) = wm := ⟨_, rfl⟩
  rw [hwm] at hE hR hF hab ⊢
  clear hwm hE0 hR0 hab0 hsz hbm hws
  have g4 : wm.cell? ⟨w.heap.size, 4, none⟩ = some (.int .i64 e.price) := cell_blk hE.eq rfl
  have f4 : wm.frozen? ⟨w.heap.size + 2, 4, none⟩ = false := free_blk hF.eq
  have d4 : wm.cell? ⟨w.heap.size + 2, 4, none⟩ = some (.int .i64 e.price) := cell_blk hF.eq rfl
  go_wp2_with (first
    | (with_reducible refine wpList_load_row rfl 25 (.tmp 5) rfl (w.heap.size + 2) rfl _ _ (0, 0) _ (blk_set hF.eq) Tryd.underlying25 rfl (by with_unfolding_all exact info_ev) ?_)
    | (with_reducible refine wpList_store_row rfl 25 (.tmp 4) (.tmp 61) rfl (w.heap.size + 1) (e.up 1).cells rfl (by with_unfolding_all exact HE.out) _ _ (EvB.eq (EvB.put (b := w.heap.size + 2) hR (by omega))) (by with_unfolding_all exact info_ev) (by with_unfolding_all exact rfl) (by with_unfolding_all exact rfl) ?_))
  exact bodyPost_ret (v := (e.up 1).val) (ret_ev rfl rfl (setRow_heap _ (w.heap.size + 1) _ (e.up 1).cells _ _ (EvB.eq (EvB.put (b := w.heap.size + 2) hR (by omega)))) rfl) rfl ⟨rfl, below_row (Below.setCell (p := ⟨w.heap.size + 2, 4, none⟩) hab (by show w.heap.size ≤ w.heap.size + 2; omega) _) (Nat.le_succ _) _⟩

set_option maxHeartbeats 1600000 in
theorem rstep2_na0 (e : Ev) (w : World) (c0 : e.cur = 0) (t0 : e.tax = 0) (q0 : e.qty < 0) (q1 : -10000 ≤ e.qty) (k2 : e.kind = 2) : Calls Tryd.prog 30 #[.int .i64 2, e.val] w fun x w' => x = .returned (e.up 2).val ∧ Below w.heap.size w w' := by
  have b1 : (e.cur == 1) = false := by rw [c0]; rfl
  have b2 : (e.cur == 2) = false := by rw [c0]; rfl
  have b3 : (e.cur == 3) = false := by rw [c0]; rfl
  have hw : wrap64 (0 - e.qty) = -e.qty := by rw [w64 (by omega) (by omega)]; omega
  have hw2 : wrap64 (-e.qty) = -e.qty := w64 (by omega) (by omega)
  have HE : Hid (Value.agg ((((e.cells.setIfInBounds 3 (.int .i64 0)).setIfInBounds 0 (.int .i64 6)).setIfInBounds 3 (.int .i64 (-e.qty)))) = .agg (e.up 2).cells) := Lib.hid (by have ht : taxOf e.cur = 0 := (by rw [c0]; rfl); show _ = Value.agg (Ev.up2 e).cells; unfold Ev.up2; rw [if_pos ⟨q0, k2⟩, if_pos q0, if_pos k2, ht]; show _ = Value.agg (Ev.cells { e with kind := 6, qty := -e.qty, tax := 0 }); rw [← t0] <;> rfl)
  have k2b : (e.kind == 2) = true := by rw [k2]; rfl
  clear k2
  clear c0 t0
  obtain ⟨hE0, hR0, hab0, hsz⟩ := two_new w e zeroEv
  have HW := Lib.hid (⟨_, rfl⟩ : ∃ wm, (w.alloc (.cells e.cells 25)).alloc (.cells zeroEv.cells 25) = wm)
  unfold Ev.val
  go_enter Tryd.func30, Tryd.ntmps30
  go_upto_region 1 with (fail)
  rw [show (#[.int .i64 0, .int .i64 0, .int .i64 0, .int .i64 0, .int .i64 0, .int .i64 0, .int .i64 0, .string ⟨#[]⟩, .int .i64 0, .string ⟨#[]⟩] : Array Value) = zeroEv.cells from rfl]
  obtain ⟨wn, hwn⟩ := HW.out
  rw [hwn] at hE0 hR0 hab0 hsz ⊢
  clear hwn HW
  have hbm := below_made wn (.cells e.cells 25)
  have hE := hE0.below hbm
  have hR := hR0.below hbm
  have hF := evB_new wn e
  have hab := below_next hab0 hbm
  go_upto_region 2 with (first
    | (with_reducible refine wpList_load_row rfl 25 (.tmp 3) rfl w.heap.size rfl _ #[.int .i64 e.kind, .int .i64 e.order, .int .i64 e.item, .int .i64 e.qty, .int .i64 e.price, .int .i64 e.cur, .int .i64 e.tax, .string e.who, .int .i64 e.stamp, .string e.note] (0, 0) _ hE0.lit Tryd.underlying25 rfl (by with_unfolding_all exact info_ev) ?_))
  rw [show (#[.int .i64 e.kind, .int .i64 e.order, .int .i64 e.item, .int .i64 e.qty, .int .i64 e.price, .int .i64 e.cur, .int .i64 e.tax, .string e.who, .int .i64 e.stamp, .string e.note] : Array Value) = e.cells from rfl]
  have hws : wn.heap.size = w.heap.size + 2 := hsz.symm
  rw [hws] at hF ⊢
  obtain ⟨wm, hwm⟩ : ∃ wm, wn.alloc (.cells e.cells 25) = wm := ⟨_, rfl⟩
  rw [hwm] at hE hR hF hab ⊢
  clear hwm hE0 hR0 hab0 hsz hbm hws
  have g0 : wm.cell? ⟨w.heap.size, 0, none⟩ = some (.int .i64 e.kind) := cell_blk hE.eq rfl
  have g3 : wm.cell? ⟨w.heap.size, 3, none⟩ = some (.int .i64 e.qty) := cell_blk hE.eq rfl
  have g5 : wm.cell? ⟨w.heap.size, 5, none⟩ = some (.int .i64 e.cur) := cell_blk hE.eq rfl
  have f0 : wm.frozen? ⟨w.heap.size + 2, 0, none⟩ = false := free_blk hF.eq
  have f3 : wm.frozen? ⟨w.heap.size + 2, 3, none⟩ = false := free_blk hF.eq
  have d0 : wm.cell? ⟨w.heap.size + 2, 0, none⟩ = some (.int .i64 e.kind) := cell_blk hF.eq rfl
  have d3 : wm.cell? ⟨w.heap.size + 2, 3, none⟩ = some (.int .i64 e.qty) := cell_blk hF.eq rfl
  go_wp2_with (first
    | (with_reducible refine wpList_load_row rfl 25 (.tmp 5) rfl (w.heap.size + 2) rfl _ _ (0, 0) _ (blk_set (blk_set (blk_set hF.eq))) Tryd.underlying25 rfl (by with_unfolding_all exact info_ev) ?_)
    | (with_reducible refine wpList_store_row rfl 25 (.tmp 4) (.tmp 61) rfl (w.heap.size + 1) (e.up 2).cells rfl (by with_unfolding_all exact HE.out) _ _ (EvB.eq (EvB.put (b := w.heap.size + 2) (EvB.put (b := w.heap.size + 2) (EvB.put (b := w.heap.size + 2) hR (by omega)) (by omega)) (by omega))) (by with_unfolding_all exact info_ev) (by with_unfolding_all exact rfl) (by with_unfolding_all exact rfl) ?_))
  exact bodyPost_ret (v := (e.up 2).val) (ret_ev rfl rfl (setRow_heap _ (w.heap.size + 1) _ (e.up 2).cells _ _ (EvB.eq (EvB.put (b := w.heap.size + 2) (EvB.put (b := w.heap.size + 2) (EvB.put (b := w.heap.size + 2) hR (by omega)) (by omega)) (by omega)))) rfl) rfl ⟨rfl, below_row (Below.setCell (p := ⟨w.heap.size + 2, 3, none⟩) (Below.setCell (p := ⟨w.heap.size + 2, 0, none⟩) (Below.setCell (p := ⟨w.heap.size + 2, 3, none⟩) hab (by show w.heap.size ≤ w.heap.size + 2; omega) _) (by show w.heap.size ≤ w.heap.size + 2; omega) _) (by show w.heap.size ≤ w.heap.size + 2; omega) _) (Nat.le_succ _) _⟩

set_option maxHeartbeats 1600000 in
theorem rstep2_nb0 (e : Ev) (w : World) (c0 : e.cur = 0) (t0 : e.tax = 0) (q0 : e.qty < 0) (k2 : e.kind ≠ 2) : Calls Tryd.prog 30 #[.int .i64 2, e.val] w fun x w' => x = .returned (e.up 2).val ∧ Below w.heap.size w w' := by
  have b1 : (e.cur == 1) = false := by rw [c0]; rfl
  have b2 : (e.cur == 2) = false := by rw [c0]; rfl
  have b3 : (e.cur == 3) = false := by rw [c0]; rfl
  have hk : (e.kind == 2) = false := by simpa using k2
  have HE : Hid (Value.agg ((e.cells.setIfInBounds 3 (.int .i64 0))) = .agg (e.up 2).cells) := Lib.hid (by have ht : taxOf e.cur = 0 := (by rw [c0]; rfl); show _ = Value.agg (Ev.up2 e).cells; unfold Ev.up2; rw [if_neg (fun h => k2 h.2), if_pos q0, if_neg k2, ht]; show _ = Value.agg (Ev.cells { e with kind := e.kind, qty := 0, tax := 0 }); rw [← t0] <;> rfl)
  clear c0 t0
  clear k2
  obtain ⟨hE0, hR0, hab0, hsz⟩ := two_new w e zeroEv
  have HW := Lib.hid (⟨_, rfl⟩ : ∃ wm, (w.alloc (.cells e.cells 25)).alloc (.cells zeroEv.cells 25) = wm)
  unfold Ev.val
  go_enter Tryd.func30, Tryd.ntmps30
  go_upto_region 1 with (fail)
  rw [show (#[.int .i64 0, .int .i64 0, .int .i64 0, .int .i64 0, .int .i64 0, .int .i64 0, .int .i64 0, .string ⟨#[]⟩, .int .i64 0, .string ⟨#[]⟩] : Array Value) = zeroEv.cells from rfl]
  obtain ⟨wn, hwn⟩ := HW.out
  rw [hwn] at hE0 hR0 hab0 hsz ⊢
  clear hwn HW
  have hbm := below_made wn (.cells e.cells 25)
  have hE := hE0.below hbm
  have hR := hR0.below hbm
  have hF := evB_new wn e
  have hab := below_next hab0 hbm
  go_upto_region 2 with (first
    | (with_reducible refine wpList_load_row rfl 25 (.tmp 3) rfl w.heap.size rfl _ #[.int .i64 e.kind, .int .i64 e.order, .int .i64 e.item, .int .i64 e.qty, .int .i64 e.price, .int .i64 e.cur, .int .i64 e.tax, .string e.who, .int .i64 e.stamp, .string e.note] (0, 0) _ hE0.lit Tryd.underlying25 rfl (by with_unfolding_all exact info_ev) ?_))
  rw [show (#[.int .i64 e.kind, .int .i64 e.order, .int .i64 e.item, .int .i64 e.qty, .int .i64 e.price, .int .i64 e.cur, .int .i64 e.tax, .string e.who, .int .i64 e.stamp, .string e.note] : Array Value) = e.cells from rfl]
  have hws : wn.heap.size = w.heap.size + 2 := hsz.symm
  rw [hws] at hF ⊢
  obtain ⟨wm, hwm⟩ : ∃ wm, wn.alloc (.cells e.cells 25) = wm := ⟨_, rfl⟩
  rw [hwm] at hE hR hF hab ⊢
  clear hwm hE0 hR0 hab0 hsz hbm hws
  have g0 : wm.cell? ⟨w.heap.size, 0, none⟩ = some (.int .i64 e.kind) := cell_blk hE.eq rfl
  have g3 : wm.cell? ⟨w.heap.size, 3, none⟩ = some (.int .i64 e.qty) := cell_blk hE.eq rfl
  have g5 : wm.cell? ⟨w.heap.size, 5, none⟩ = some (.int .i64 e.cur) := cell_blk hE.eq rfl
  have f3 : wm.frozen? ⟨w.heap.size + 2, 3, none⟩ = false := free_blk hF.eq
  have d3 : wm.cell? ⟨w.heap.size + 2, 3, none⟩ = some (.int .i64 e.qty) := cell_blk hF.eq rfl
  go_wp2_with (first
    | (with_reducible refine wpList_load_row rfl 25 (.tmp 5) rfl (w.heap.size + 2) rfl _ _ (0, 0) _ (blk_set hF.eq) Tryd.underlying25 rfl (by with_unfolding_all exact info_ev) ?_)
    | (with_reducible refine wpList_store_row rfl 25 (.tmp 4) (.tmp 61) rfl (w.heap.size + 1) (e.up 2).cells rfl (by with_unfolding_all exact HE.out) _ _ (EvB.eq (EvB.put (b := w.heap.size + 2) hR (by omega))) (by with_unfolding_all exact info_ev) (by with_unfolding_all exact rfl) (by with_unfolding_all exact rfl) ?_))
  exact bodyPost_ret (v := (e.up 2).val) (ret_ev rfl rfl (setRow_heap _ (w.heap.size + 1) _ (e.up 2).cells _ _ (EvB.eq (EvB.put (b := w.heap.size + 2) hR (by omega)))) rfl) rfl ⟨rfl, below_row (Below.setCell (p := ⟨w.heap.size + 2, 3, none⟩) hab (by show w.heap.size ≤ w.heap.size + 2; omega) _) (Nat.le_succ _) _⟩

set_option maxHeartbeats 1600000 in
theorem rstep2_p0 (e : Ev) (w : World) (c0 : e.cur = 0) (t0 : e.tax = 0) (q0 : ¬ e.qty < 0) : Calls Tryd.prog 30 #[.int .i64 2, e.val] w fun x w' => x = .returned (e.up 2).val ∧ Below w.heap.size w w' := by
  have b1 : (e.cur == 1) = false := by rw [c0]; rfl
  have b2 : (e.cur == 2) = false := by rw [c0]; rfl
  have b3 : (e.cur == 3) = false := by rw [c0]; rfl
  have HE : Hid (Value.agg (e.cells) = .agg (e.up 2).cells) := Lib.hid (by have ht : taxOf e.cur = 0 := (by rw [c0]; rfl); show _ = Value.agg (Ev.up2 e).cells; unfold Ev.up2; rw [if_neg (fun h => q0 h.1), if_neg q0, ht]; show _ = Value.agg (Ev.cells { e with kind := e.kind, qty := e.qty, tax := 0 }); rw [← t0] <;> rfl)
  clear c0 t0
  obtain ⟨hE0, hR0, hab0, hsz⟩ := two_new w e zeroEv
  have HW := Lib.hid (⟨_, rfl⟩ : ∃ wm, (w.alloc (.cells e.cells 25)).alloc (.cells zeroEv.cells 25) = wm)
  unfold Ev.val
  go_enter Tryd.func30, Tryd.ntmps30
  go_upto_region 1 with (fail)
  rw [show (#[.int .i64 0, .int .i64 0, .int .i64 0, .int .i64 0, .int .i64 0, .int .i64 0, .int .i64 0, .string ⟨#[]⟩, .int .i64 0, .string ⟨#[]⟩] : Array Value) = zeroEv.cells from rfl]
  obtain ⟨wn, hwn⟩ := HW.out
  rw [hwn] at hE0 hR0 hab0 hsz ⊢
  clear hwn HW
  have hbm := below_made wn (.cells e.cells 25)
  have hE := hE0.below hbm
  have hR := hR0.below hbm
  have hF := evB_new wn e
  have hab := below_next hab0 hbm
  go_upto_region 2 with (first
    | (with_reducible refine wpList_load_row rfl 25 (.tmp 3) rfl w.heap.size rfl _ #[.int .i64 e.kind, .int .i64 e.order, .int .i64 e.item, .int .i64 e.qty, .int .i64 e.price, .int .i64 e.cur, .int .i64 e.tax, .string e.who, .int .i64 e.stamp, .string e.note] (0, 0) _ hE0.lit Tryd.underlying25 rfl (by with_unfolding_all exact info_ev) ?_))
  rw [show (#[.int .i64 e.kind, .int .i64 e.order, .int .i64 e.item, .int .i64 e.qty, .int .i64 e.price, .int .i64 e.cur, .int .i64 e.tax, .string e.who, .int .i64 e.stamp, .string e.note] : Array Value) = e.cells from rfl]
  have hws : wn.heap.size = w.heap.size + 2 := hsz.symm
  rw [hws] at hF ⊢
  obtain ⟨wm, hwm⟩ : ∃ wm, wn.alloc (.cells e.cells 25) = wm := ⟨_, rfl⟩
  rw [hwm] at hE hR hF hab ⊢
  clear hwm hE0 hR0 hab0 hsz hbm hws
  have g0 : wm.cell? ⟨w.heap.size, 0, none⟩ = some (.int .i64 e.kind) := cell_blk hE.eq rfl
  have g3 : wm.cell? ⟨w.heap.size, 3, none⟩ = some (.int .i64 e.qty) := cell_blk hE.eq rfl
  have g5 : wm.cell? ⟨w.heap.size, 5, none⟩ = some (.int .i64 e.cur) := cell_blk hE.eq rfl
  go_wp2_with (first
    | (with_reducible refine wpList_load_row rfl 25 (.tmp 5) rfl (w.heap.size + 2) rfl _ _ (0, 0) _ hF.eq Tryd.underlying25 rfl (by with_unfolding_all exact info_ev) ?_)
    | (with_reducible refine wpList_store_row rfl 25 (.tmp 4) (.tmp 61) rfl (w.heap.size + 1) (e.up 2).cells rfl (by with_unfolding_all exact HE.out) _ _ (EvB.eq hR) (by with_unfolding_all exact info_ev) (by with_unfolding_all exact rfl) (by with_unfolding_all exact rfl) ?_))
  exact bodyPost_ret (v := (e.up 2).val) (ret_ev rfl rfl (setRow_heap _ (w.heap.size + 1) _ (e.up 2).cells _ _ (EvB.eq hR)) rfl) rfl ⟨rfl, below_row hab (Nat.le_succ _) _⟩

set_option maxHeartbeats 1600000 in
theorem rstep2_na1 (e : Ev) (w : World) (c0 : e.cur = 1) (t0 : e.tax = 0) (q0 : e.qty < 0) (q1 : -10000 ≤ e.qty) (k2 : e.kind = 2) : Calls Tryd.prog 30 #[.int .i64 2, e.val] w fun x w' => x = .returned (e.up 2).val ∧ Below w.heap.size w w' := by
  have b1 : (e.cur == 1) = true := by rw [c0]; rfl
  have b2 : (e.cur == 2) = false := by rw [c0]; rfl
  have b3 : (e.cur == 3) = false := by rw [c0]; rfl
  have hw : wrap64 (0 - e.qty) = -e.qty := by rw [w64 (by omega) (by omega)]; omega
  have hw2 : wrap64 (-e.qty) = -e.qty := w64 (by omega) (by omega)
  have HE : Hid (Value.agg ((((e.cells.setIfInBounds 3 (.int .i64 0)).setIfInBounds 0 (.int .i64 6)).setIfInBounds 3 (.int .i64 (-e.qty))).setIfInBounds 6 (.int .i64 1900)) = .agg (e.up 2).cells) := Lib.hid (by have ht : taxOf e.cur = 1900 := (by rw [c0]; rfl); show _ = Value.agg (Ev.up2 e).cells; unfold Ev.up2; rw [if_pos ⟨q0, k2⟩, if_pos q0, if_pos k2, ht]; rfl)
  have k2b : (e.kind == 2) = true := by rw [k2]; rfl
  clear k2
  clear c0 t0
  obtain ⟨hE0, hR0, hab0, hsz⟩ := two_new w e zeroEv
  have HW := Lib.hid (⟨_, rfl⟩ : ∃ wm, (w.alloc (.cells e.cells 25)).alloc (.cells zeroEv.cells 25) = wm)
  unfold Ev.val
  go_enter Tryd.func30, Tryd.ntmps30
  go_upto_region 1 with (fail)
  rw [show (#[.int .i64 0, .int .i64 0, .int .i64 0, .int .i64 0, .int .i64 0, .int .i64 0, .int .i64 0, .string ⟨#[]⟩, .int .i64 0, .string ⟨#[]⟩] : Array Value) = zeroEv.cells from rfl]
  obtain ⟨wn, hwn⟩ := HW.out
  rw [hwn] at hE0 hR0 hab0 hsz ⊢
  clear hwn HW
  have hbm := below_made wn (.cells e.cells 25)
  have hE := hE0.below hbm
  have hR := hR0.below hbm
  have hF := evB_new wn e
  have hab := below_next hab0 hbm
  go_upto_region 2 with (first
    | (with_reducible refine wpList_load_row rfl 25 (.tmp 3) rfl w.heap.size rfl _ #[.int .i64 e.kind, .int .i64 e.order, .int .i64 e.item, .int .i64 e.qty, .int .i64 e.price, .int .i64 e.cur, .int .i64 e.tax, .string e.who, .int .i64 e.stamp, .string e.note] (0, 0) _ hE0.lit Tryd.underlying25 rfl (by with_unfolding_all exact info_ev) ?_))
  rw [show (#[.int .i64 e.kind, .int .i64 e.order, .int .i64 e.item, .int .i64 e.qty, .int .i64 e.price, .int .i64 e.cur, .int .i64 e.tax, .string e.who, .int .i64 e.stamp, .string e.note] : Array Value) = e.cells from rfl]
  have hws : wn.heap.size = w.heap.size + 2 := hsz.symm
  rw [hws] at hF ⊢
  obtain ⟨wm, hwm⟩ : ∃ wm, wn.alloc (.cells e.cells 25) = wm := ⟨_, rfl⟩
  rw [hwm] at hE hR hF hab ⊢
  clear hwm hE0 hR0 hab0 hsz hbm hws
  have g0 : wm.cell? ⟨w.heap.size, 0, none⟩ = some (.int .i64 e.kind) := cell_blk hE.eq rfl
  have g3 : wm.cell? ⟨w.heap.size, 3, none⟩ = some (.int .i64 e.qty) := cell_blk hE.eq rfl
  have g5 : wm.cell? ⟨w.heap.size, 5, none⟩ = some (.int .i64 e.cur) := cell_blk hE.eq rfl
  have f0 : wm.frozen? ⟨w.heap.size + 2, 0, none⟩ = false := free_blk hF.eq
  have f3 : wm.frozen? ⟨w.heap.size + 2, 3, none⟩ = false := free_blk hF.eq
  have f6 : wm.frozen? ⟨w.heap.size + 2, 6, none⟩ = false := free_blk hF.eq
  have d0 : wm.cell? ⟨w.heap.size + 2, 0, none⟩ = some (.int .i64 e.kind) := cell_blk hF.eq rfl
  have d3 : wm.cell? ⟨w.heap.size + 2, 3, none⟩ = some (.int .i64 e.qty) := cell_blk hF.eq rfl
  have d6 : wm.cell? ⟨w.heap.size + 2, 6, none⟩ = some (.int .i64 e.tax) := cell_blk hF.eq rfl
  go_wp2_with (first
    | (with_reducible refine wpList_load_row rfl 25 (.tmp 5) rfl (w.heap.size + 2) rfl _ _ (0, 0) _ (blk_set (blk_set (blk_set (blk_set hF.eq)))) Tryd.underlying25 rfl (by with_unfolding_all exact info_ev) ?_)
    | (with_reducible refine wpList_store_row rfl 25 (.tmp 4) (.tmp 61) rfl (w.heap.size + 1) (e.up 2).cells rfl (by with_unfolding_all exact HE.out) _ _ (EvB.eq (EvB.put (b := w.heap.size + 2) (EvB.put (b := w.heap.size + 2) (EvB.put (b := w.heap.size + 2) (EvB.put (b := w.heap.size + 2) hR (by omega)) (by omega)) (by omega)) (by omega))) (by with_unfolding_all exact info_ev) (by with_unfolding_all exact rfl) (by with_unfolding_all exact rfl) ?_))
  exact bodyPost_ret (v := (e.up 2).val) (ret_ev rfl rfl (setRow_heap _ (w.heap.size + 1) _ (e.up 2).cells _ _ (EvB.eq (EvB.put (b := w.heap.size + 2) (EvB.put (b := w.heap.size + 2) (EvB.put (b := w.heap.size + 2) (EvB.put (b := w.heap.size + 2) hR (by omega)) (by omega)) (by omega)) (by omega)))) rfl) rfl ⟨rfl, below_row (Below.setCell (p := ⟨w.heap.size + 2, 6, none⟩) (Below.setCell (p := ⟨w.heap.size + 2, 3, none⟩) (Below.setCell (p := ⟨w.heap.size + 2, 0, none⟩) (Below.setCell (p := ⟨w.heap.size + 2, 3, none⟩) hab (by show w.heap.size ≤ w.heap.size + 2; omega) _) (by show w.heap.size ≤ w.heap.size + 2; omega) _) (by show w.heap.size ≤ w.heap.size + 2; omega) _) (by show w.heap.size ≤ w.heap.size + 2; omega) _) (Nat.le_succ _) _⟩

set_option maxHeartbeats 1600000 in
theorem rstep2_nb1 (e : Ev) (w : World) (c0 : e.cur = 1) (t0 : e.tax = 0) (q0 : e.qty < 0) (k2 : e.kind ≠ 2) : Calls Tryd.prog 30 #[.int .i64 2, e.val] w fun x w' => x = .returned (e.up 2).val ∧ Below w.heap.size w w' := by
  have b1 : (e.cur == 1) = true := by rw [c0]; rfl
  have b2 : (e.cur == 2) = false := by rw [c0]; rfl
  have b3 : (e.cur == 3) = false := by rw [c0]; rfl
  have hk : (e.kind == 2) = false := by simpa using k2
  have HE : Hid (Value.agg ((e.cells.setIfInBounds 3 (.int .i64 0)).setIfInBounds 6 (.int .i64 1900)) = .agg (e.up 2).cells) := Lib.hid (by have ht : taxOf e.cur = 1900 := (by rw [c0]; rfl); show _ = Value.agg (Ev.up2 e).cells; unfold Ev.up2; rw [if_neg (fun h => k2 h.2), if_pos q0, if_neg k2, ht]; rfl)
  clear c0 t0
  clear k2
  obtain ⟨hE0, hR0, hab0, hsz⟩ := two_new w e zeroEv
  have HW := Lib.hid (⟨_, rfl⟩ : ∃ wm, (w.alloc (.cells e.cells 25)).alloc (.cells zeroEv.cells 25) = wm)
  unfold Ev.val
  go_enter Tryd.func30, Tryd.ntmps30
  go_upto_region 1 with (fail)
  rw [show (#[.int .i64 0, .int .i64 0, .int .i64 0, .int .i64 0, .int .i64 0, .int .i64 0, .int .i64 0, .string ⟨#[]⟩, .int .i64 0, .string ⟨#[]⟩] : Array Value) = zeroEv.cells from rfl]
  obtain ⟨wn, hwn⟩ := HW.out
  rw [hwn] at hE0 hR0 hab0 hsz ⊢
  clear hwn HW
  have hbm := below_made wn (.cells e.cells 25)
  have hE := hE0.below hbm
  have hR := hR0.below hbm
  have hF := evB_new wn e
  have hab := below_next hab0 hbm
  go_upto_region 2 with (first
    | (with_reducible refine wpList_load_row rfl 25 (.tmp 3) rfl w.heap.size rfl _ #[.int .i64 e.kind, .int .i64 e.order, .int .i64 e.item, .int .i64 e.qty, .int .i64 e.price, .int .i64 e.cur, .int .i64 e.tax, .string e.who, .int .i64 e.stamp, .string e.note] (0, 0) _ hE0.lit Tryd.underlying25 rfl (by with_unfolding_all exact info_ev) ?_))
  rw [show (#[.int .i64 e.kind, .int .i64 e.order, .int .i64 e.item, .int .i64 e.qty, .int .i64 e.price, .int .i64 e.cur, .int .i64 e.tax, .string e.who, .int .i64 e.stamp, .string e.note] : Array Value) = e.cells from rfl]
  have hws : wn.heap.size = w.heap.size + 2 := hsz.symm
  rw [hws] at hF ⊢
  obtain ⟨wm, hwm⟩ : ∃ wm, wn.alloc (.cells e.cells 25) = wm := ⟨_, rfl⟩
  rw [hwm] at hE hR hF hab ⊢
  clear hwm hE0 hR0 hab0 hsz hbm hws
  have g0 : wm.cell? ⟨w.heap.size, 0, none⟩ = some (.int .i64 e.kind) := cell_blk hE.eq rfl
  have g3 : wm.cell? ⟨w.heap.size, 3, none⟩ = some (.int .i64 e.qty) := cell_blk hE.eq rfl
  have g5 : wm.cell? ⟨w.heap.size, 5, none⟩ = some (.int .i64 e.cur) := cell_blk hE.eq rfl
  have f3 : wm.frozen? ⟨w.heap.size + 2, 3, none⟩ = false := free_blk hF.eq
  have f6 : wm.frozen? ⟨w.heap.size + 2, 6, none⟩ = false := free_blk hF.eq
  have d3 : wm.cell? ⟨w.heap.size + 2, 3, none⟩ = some (.int .i64 e.qty) := cell_blk hF.eq rfl
  have d6 : wm.cell? ⟨w.heap.size + 2, 6, none⟩ = some (.int .i64 e.tax) := cell_blk hF.eq rfl
  go_wp2_with (first
    | (with_reducible refine wpList_load_row rfl 25 (.tmp 5) rfl (w.heap.size + 2) rfl _ _ (0, 0) _ (blk_set (blk_set hF.eq)) Tryd.underlying25 rfl (by with_unfolding_all exact info_ev) ?_)
    | (with_reducible refine wpList_store_row rfl 25 (.tmp 4) (.tmp 61) rfl (w.heap.size + 1) (e.up 2).cells rfl (by with_unfolding_all exact HE.out) _ _ (EvB.eq (EvB.put (b := w.heap.size + 2) (EvB.put (b := w.heap.size + 2) hR (by omega)) (by omega))) (by with_unfolding_all exact info_ev) (by with_unfolding_all exact rfl) (by with_unfolding_all exact rfl) ?_))
  exact bodyPost_ret (v := (e.up 2).val) (ret_ev rfl rfl (setRow_heap _ (w.heap.size + 1) _ (e.up 2).cells _ _ (EvB.eq (EvB.put (b := w.heap.size + 2) (EvB.put (b := w.heap.size + 2) hR (by omega)) (by omega)))) rfl) rfl ⟨rfl, below_row (Below.setCell (p := ⟨w.heap.size + 2, 6, none⟩) (Below.setCell (p := ⟨w.heap.size + 2, 3, none⟩) hab (by show w.heap.size ≤ w.heap.size + 2; omega) _) (by show w.heap.size ≤ w.heap.size + 2; omega) _) (Nat.le_succ _) _⟩

set_option maxHeartbeats 1600000 in
theorem rstep2_p1 (e : Ev) (w : World) (c0 : e.cur = 1) (t0 : e.tax = 0) (q0 : ¬ e.qty < 0) : Calls Tryd.prog 30 #[.int .i64 2, e.val] w fun x w' => x = .returned (e.up 2).val ∧ Below w.heap.size w w' := by
  have b1 : (e.cur == 1) = true := by rw [c0]; rfl
  have b2 : (e.cur == 2) = false := by rw [c0]; rfl
  have b3 : (e.cur == 3) = false := by rw [c0]; rfl
  have HE : Hid (Value.agg (e.cells.setIfInBounds 6 (.int .i64 1900)) = .agg (e.up 2).cells) := Lib.hid (by have ht : taxOf e.cur = 1900 := (by rw [c0]; rfl); show _ = Value.agg (Ev.up2 e).cells; unfold Ev.up2; rw [if_neg (fun h => q0 h.1), if_neg q0, ht]; rfl)
  clear c0 t0
  obtain ⟨hE0, hR0, hab0, hsz⟩ := two_new w e zeroEv
  have HW := Lib.hid (⟨_, rfl⟩ : ∃ wm, (w.alloc (.cells e.cells 25)).alloc (.cells zeroEv.cells 25) = wm)
  unfold Ev.val
  go_enter Tryd.func30, Tryd.ntmps30
  go_upto_region 1 with (fail)
  rw [show (#[.int .i64 0, .int .i64 0, .int .i64 0, .int .i64 0, .int .i64 0, .int .i64 0, .int .i64 0, .string ⟨#[]⟩, .int .i64 0, .string ⟨#[]⟩] : Array Value) = zeroEv.cells from rfl]
  obtain ⟨wn, hwn⟩ := HW.out
  rw [hwn] at hE0 hR0 hab0 hsz ⊢
  clear hwn HW
  have hbm := below_made wn (.cells e.cells 25)
  have hE := hE0.below hbm
  have hR := hR0.below hbm
  have hF := evB_new wn e
  have hab := below_next hab0 hbm
  go_upto_region 2 with (first
    | (with_reducible refine wpList_load_row rfl 25 (.tmp 3) rfl w.heap.size rfl _ #[.int .i64 e.kind, .int .i64 e.order, .int .i64 e.item, .int .i64 e.qty, .int .i64 e.price, .int .i64 e.cur, .int .i64 e.tax, .string e.who, .int .i64 e.stamp, .string e.note] (0, 0) _ hE0.lit Tryd.underlying25 rfl (by with_unfolding_all exact info_ev) ?_))
  rw [show (#[.int .i64 e.kind, .int .i64 e.order, .int .i64 e.item, .int .i64 e.qty, .int .i64 e.price, .int .i64 e.cur, .int .i64 e.tax, .string e.who, .int .i64 e.stamp, .string e.note] : Array Value) = e.cells from rfl]
  have hws : wn.heap.size = w.heap.size + 2 := hsz.symm
  rw [hws] at hF ⊢
  obtain ⟨wm, hwm⟩ : ∃ wm, wn.alloc (.cells e.cells 25) = wm := ⟨_, rfl⟩
  rw [hwm] at hE hR hF hab ⊢
  clear hwm hE0 hR0 hab0 hsz hbm hws
  have g0 : wm.cell? ⟨w.heap.size, 0, none⟩ = some (.int .i64 e.kind) := cell_blk hE.eq rfl
  have g3 : wm.cell? ⟨w.heap.size, 3, none⟩ = some (.int .i64 e.qty) := cell_blk hE.eq rfl
  have g5 : wm.cell? ⟨w.heap.size, 5, none⟩ = some (.int .i64 e.cur) := cell_blk hE.eq rfl
  have f6 : wm.frozen? ⟨w.heap.size + 2, 6, none⟩ = false := free_blk hF.eq
  have d6 : wm.cell? ⟨w.heap.size + 2, 6, none⟩ = some (.int .i64 e.tax) := cell_blk hF.eq rfl
  go_wp2_with (first
    | (with_reducible refine wpList_load_row rfl 25 (.tmp 5) rfl (w.heap.size + 2) rfl _ _ (0, 0) _ (blk_set hF.eq) Tryd.underlying25 rfl (by with_unfolding_all exact info_ev) ?_)
    | (with_reducible refine wpList_store_row rfl 25 (.tmp 4) (.tmp 61) rfl (w.heap.size + 1) (e.up 2).cells rfl (by with_unfolding_all exact HE.out) _ _ (EvB.eq (EvB.put (b := w.heap.size + 2) hR (by omega))) (by with_unfolding_all exact info_ev) (by with_unfolding_all exact rfl) (by with_unfolding_all exact rfl) ?_))
  exact bodyPost_ret (v := (e.up 2).val) (ret_ev rfl rfl (setRow_heap _ (w.heap.size + 1) _ (e.up 2).cells _ _ (EvB.eq (EvB.put (b := w.heap.size + 2) hR (by omega)))) rfl) rfl ⟨rfl, below_row (Below.setCell (p := ⟨w.heap.size + 2, 6, none⟩) hab (by show w.heap.size ≤ w.heap.size + 2; omega) _) (Nat.le_succ _) _⟩

set_option maxHeartbeats 1600000 in
theorem rstep2_na2 (e : Ev) (w : World) (c0 : e.cur = 2) (t0 : e.tax = 0) (q0 : e.qty < 0) (q1 : -10000 ≤ e.qty) (k2 : e.kind = 2) : Calls Tryd.prog 30 #[.int .i64 2, e.val] w fun x w' => x = .returned (e.up 2).val ∧ Below w.heap.size w w' := by
  have b1 : (e.cur == 1) = false := by rw [c0]; rfl
  have b2 : (e.cur == 2) = true := by rw [c0]; rfl
  have b3 : (e.cur == 3) = false := by rw [c0]; rfl
  have hw : wrap64 (0 - e.qty) = -e.qty := by rw [w64 (by omega) (by omega)]; omega
  have hw2 : wrap64 (-e.qty) = -e.qty := w64 (by omega) (by omega)
  have HE : Hid (Value.agg ((((e.cells.setIfInBounds 3 (.int .i64 0)).setIfInBounds 0 (.int .i64 6)).setIfInBounds 3 (.int .i64 (-e.qty))).setIfInBounds 6 (.int .i64 2000)) = .agg (e.up 2).cells) := Lib.hid (by have ht : taxOf e.cur = 2000 := (by rw [c0]; rfl); show _ = Value.agg (Ev.up2 e).cells; unfold Ev.up2; rw [if_pos ⟨q0, k2⟩, if_pos q0, if_pos k2, ht]; rfl)
  have k2b : (e.kind == 2) = true := by rw [k2]; rfl
  clear k2
  clear c0 t0
  obtain ⟨hE0, hR0, hab0, hsz⟩ := two_new w e zeroEv
  have HW := Lib.hid (⟨_, rfl⟩ : ∃ wm, (w.alloc (.cells e.cells 25)).alloc (.cells zeroEv.cells 25) = wm)
  unfold Ev.val
  go_enter Tryd.func30, Tryd.ntmps30
  go_upto_region 1 with (fail)
  rw [show (#[.int .i64 0, .int .i64 0, .int .i64 0, .int .i64 0, .int .i64 0, .int .i64 0, .int .i64 0, .string ⟨#[]⟩, .int .i64 0, .string ⟨#[]⟩] : Array Value) = zeroEv.cells from rfl]
  obtain ⟨wn, hwn⟩ := HW.out
  rw [hwn] at hE0 hR0 hab0 hsz ⊢
  clear hwn HW
  have hbm := below_made wn (.cells e.cells 25)
  have hE := hE0.below hbm
  have hR := hR0.below hbm
  have hF := evB_new wn e
  have hab := below_next hab0 hbm
  go_upto_region 2 with (first
    | (with_reducible refine wpList_load_row rfl 25 (.tmp 3) rfl w.heap.size rfl _ #[.int .i64 e.kind, .int .i64 e.order, .int .i64 e.item, .int .i64 e.qty, .int .i64 e.price, .int .i64 e.cur, .int .i64 e.tax, .string e.who, .int .i64 e.stamp, .string e.note] (0, 0) _ hE0.lit Tryd.underlying25 rfl (by with_unfolding_all exact info_ev) ?_))
  rw [show (#[.int .i64 e.kind, .int .i64 e.order, .int .i64 e.item, .int .i64 e.qty, .int .i64 e.price, .int .i64 e.cur, .int .i64 e.tax, .string e.who, .int .i64 e.stamp, .string e.note] : Array Value) = e.cells from rfl]
  have hws : wn.heap.size = w.heap.size + 2 := hsz.symm
  rw [hws] at hF ⊢
  obtain ⟨wm, hwm⟩ : ∃ wm, wn.alloc (.cells e.cells 25) = wm := ⟨_, rfl⟩
  rw [hwm] at hE hR hF hab ⊢
  clear hwm hE0 hR0 hab0 hsz hbm hws
  have g0 : wm.cell? ⟨w.heap.size, 0, none⟩ = some (.int .i64 e.kind) := cell_blk hE.eq rfl
  have g3 : wm.cell? ⟨w.heap.size, 3, none⟩ = some (.int .i64 e.qty) := cell_blk hE.eq rfl
  have g5 : wm.cell? ⟨w.heap.size, 5, none⟩ = some (.int .i64 e.cur) := cell_blk hE.eq rfl
  have f0 : wm.frozen? ⟨w.heap.size + 2, 0, none⟩ = false := free_blk hF.eq
  have f3 : wm.frozen? ⟨w.heap.size + 2, 3, none⟩ = false := free_blk hF.eq
  have f6 : wm.frozen? ⟨w.heap.size + 2, 6, none⟩ = false := free_blk hF.eq
  have d0 : wm.cell? ⟨w.heap.size + 2, 0, none⟩ = some (.int .i64 e.kind) := cell_blk hF.eq rfl
  have d3 : wm.cell? ⟨w.heap.size + 2, 3, none⟩ = some (.int .i64 e.qty) := cell_blk hF.eq rfl
  have d6 : wm.cell? ⟨w.heap.size + 2, 6, none⟩ = some (.int .i64 e.tax) := cell_blk hF.eq rfl
  go_wp2_with (first
    | (with_reducible refine wpList_load_row rfl 25 (.tmp 5) rfl (w.heap.size + 2) rfl _ _ (0, 0) _ (blk_set (blk_set (blk_set (blk_set hF.eq)))) Tryd.underlying25 rfl (by with_unfolding_all exact info_ev) ?_)
    | (with_reducible refine wpList_store_row rfl 25 (.tmp 4) (.tmp 61) rfl (w.heap.size + 1) (e.up 2).cells rfl (by with_unfolding_all exact HE.out) _ _ (EvB.eq (EvB.put (b := w.heap.size + 2) (EvB.put (b := w.heap.size + 2) (EvB.put (b := w.heap.size + 2) (EvB.put (b := w.heap.size + 2) hR (by omega)) (by omega)) (by omega)) (by omega))) (by with_unfolding_all exact info_ev) (by with_unfolding_all exact rfl) (by with_unfolding_all exact rfl) ?_))
  exact bodyPost_ret (v := (e.up 2).val) (ret_ev rfl rfl (setRow_heap _ (w.heap.size + 1) _ (e.up 2).cells _ _ (EvB.eq (EvB.put (b := w.heap.size + 2) (EvB.put (b := w.heap.size + 2) (EvB.put (b := w.heap.size + 2) (EvB.put (b := w.heap.size + 2) hR (by omega)) (by omega)) (by omega)) (by omega)))) rfl) rfl ⟨rfl, below_row (Below.setCell (p := ⟨w.heap.size + 2, 6, none⟩) (Below.setCell (p := ⟨w.heap.size + 2, 3, none⟩) (Below.setCell (p := ⟨w.heap.size + 2, 0, none⟩) (Below.setCell (p := ⟨w.heap.size + 2, 3, none⟩) hab (by show w.heap.size ≤ w.heap.size + 2; omega) _) (by show w.heap.size ≤ w.heap.size + 2; omega) _) (by show w.heap.size ≤ w.heap.size + 2; omega) _) (by show w.heap.size ≤ w.heap.size + 2; omega) _) (Nat.le_succ _) _⟩

set_option maxHeartbeats 1600000 in
theorem rstep2_nb2 (e : Ev) (w : World) (c0 : e.cur = 2) (t0 : e.tax = 0) (q0 : e.qty < 0) (k2 : e.kind ≠ 2) : Calls Tryd.prog 30 #[.int .i64 2, e.val] w fun x w' => x = .returned (e.up 2).val ∧ Below w.heap.size w w' := by
  have b1 : (e.cur == 1) = false := by rw [c0]; rfl
  have b2 : (e.cur == 2) = true := by rw [c0]; rfl
  have b3 : (e.cur == 3) = false := by rw [c0]; rfl
  have hk : (e.kind == 2) = false := by simpa using k2
  have HE : Hid (Value.agg ((e.cells.setIfInBounds 3 (.int .i64 0)).setIfInBounds 6 (.int .i64 2000)) = .agg (e.up 2).cells) := Lib.hid (by have ht : taxOf e.cur = 2000 := (by rw [c0]; rfl); show _ = Value.agg (Ev.up2 e).cells; unfold Ev.up2; rw [if_neg (fun h => k2 h.2), if_pos q0, if_neg k2, ht]; rfl)
  clear c0 t0
  clear k2
  obtain ⟨hE0, hR0, hab0, hsz⟩ := two_new w e zeroEv
  have HW := Lib.hid (⟨_, rfl⟩ : ∃ wm, (w.alloc (.cells e.cells 25)).alloc (.cells zeroEv.cells 25) = wm)
  unfold Ev.val
  go_enter Tryd.func30, Tryd.ntmps30
  go_upto_region 1 with (fail)
  rw [show (#[.int .i64 0, .int .i64 0, .int .i64 0, .int .i64 0, .int .i64 0, .int .i64 0, .int .i64 0, .string ⟨#[]⟩, .int .i64 0, .string ⟨#[]⟩] : Array Value) = zeroEv.cells from rfl]
  obtain ⟨wn, hwn⟩ := HW.out
  rw [hwn] at hE0 hR0 hab0 hsz ⊢
  clear hwn HW
  have hbm := below_made wn (.cells e.cells 25)
  have hE := hE0.below hbm
  have hR := hR0.below hbm
  have hF := evB_new wn e
  have hab := below_next hab0 hbm
  go_upto_region 2 with (first
    | (with_reducible refine wpList_load_row rfl 25 (.tmp 3) rfl w.heap.size rfl _ #[.int .i64 e.kind, .int .i64 e.order, .int .i64 e.item, .int .i64 e.qty, .int .i64 e.price, .int .i64 e.cur, .int .i64 e.tax, .string e.who, .int .i64 e.stamp, .string e.note] (0, 0) _ hE0.lit Tryd.underlying25 rfl (by with_unfolding_all exact info_ev) ?_))
  rw [show (#[.int .i64 e.kind, .int .i64 e.order, .int .i64 e.item, .int .i64 e.qty, .int .i64 e.price, .int .i64 e.cur, .int .i64 e.tax, .string e.who, .int .i64 e.stamp, .string e.note] : Array Value) = e.cells from rfl]
  have hws : wn.heap.size = w.heap.size + 2 := hsz.symm
  rw [hws] at hF ⊢
  obtain ⟨wm, hwm⟩ : ∃ wm, wn.alloc (.cells e.cells 25) = wm := ⟨_, rfl⟩
  rw [hwm] at hE hR hF hab ⊢
  clear hwm hE0 hR0 hab0 hsz hbm hws
  have g0 : wm.cell? ⟨w.heap.size, 0, none⟩ = some (.int .i64 e.kind) := cell_blk hE.eq rfl
  have g3 : wm.cell? ⟨w.heap.size, 3, none⟩ = some (.int .i64 e.qty) := cell_blk hE.eq rfl
  have g5 : wm.cell? ⟨w.heap.size, 5, none⟩ = some (.int .i64 e.cur) := cell_blk hE.eq rfl
  have f3 : wm.frozen? ⟨w.heap.size + 2, 3, none⟩ = false := free_blk hF.eq
  have f6 : wm.frozen? ⟨w.heap.size + 2, 6, none⟩ = false := free_blk hF.eq
  have d3 : wm.cell? ⟨w.heap.size + 2, 3, none⟩ = some (.int .i64 e.qty) := cell_blk hF.eq rfl
  have d6 : wm.cell? ⟨w.heap.size + 2, 6, none⟩ = some (.int .i64 e.tax) := cell_blk hF.eq rfl
  go_wp2_with (first
    | (with_reducible refine wpList_load_row rfl 25 (.tmp 5) rfl (w.heap.size + 2) rfl _ _ (0, 0) _ (blk_set (blk_set hF.eq)) Tryd.underlying25 rfl (by with_unfolding_all exact info_ev) ?_)
    | (with_reducible refine wpList_store_row rfl 25 (.tmp 4) (.tmp 61) rfl (w.heap.size + 1) (e.up 2).cells rfl (by with_unfolding_all exact HE.out) _ _ (EvB.eq (EvB.put (b := w.heap.size + 2) (EvB.put (b := w.heap.size + 2) hR (by omega)) (by omega))) (by with_unfolding_all exact info_ev) (by with_unfolding_all exact rfl) (by with_unfolding_all exact rfl) ?_))
  exact bodyPost_ret (v := (e.up 2).val) (ret_ev rfl rfl (setRow_heap _ (w.heap.size + 1) _ (e.up 2).cells _ _ (EvB.eq (EvB.put (b := w.heap.size + 2) (EvB.put (b := w.heap.size + 2) hR (by omega)) (by omega)))) rfl) rfl ⟨rfl, below_row (Below.setCell (p := ⟨w.heap.size + 2, 6, none⟩) (Below.setCell (p := ⟨w.heap.size + 2, 3, none⟩) hab (by show w.heap.size ≤ w.heap.size + 2; omega) _) (by show w.heap.size ≤ w.heap.size + 2; omega) _) (Nat.le_succ _) _⟩

set_option maxHeartbeats 1600000 in
theorem rstep2_p2 (e : Ev) (w : World) (c0 : e.cur = 2) (t0 : e.tax = 0) (q0 : ¬ e.qty < 0) : Calls Tryd.prog 30 #[.int .i64 2, e.val] w fun x w' => x = .returned (e.up 2).val ∧ Below w.heap.size w w' := by
  have b1 : (e.cur == 1) = false := by rw [c0]; rfl
  have b2 : (e.cur == 2) = true := by rw [c0]; rfl
  have b3 : (e.cur == 3) = false := by rw [c0]; rfl
  have HE : Hid (Value.agg (e.cells.setIfInBounds 6 (.int .i64 2000)) = .agg (e.up 2).cells) := Lib.hid (by have ht : taxOf e.cur = 2000 := (by rw [c0]; rfl); show _ = Value.agg (Ev.up2 e).cells; unfold Ev.up2; rw [if_neg (fun h => q0 h.1), if_neg q0, ht]; rfl)
  clear c0 t0
  obtain ⟨hE0, hR0, hab0, hsz⟩ := two_new w e zeroEv
  have HW := Lib.hid (⟨_, rfl⟩ : ∃ wm, (w.alloc (.cells e.cells 25)).alloc (.cells zeroEv.cells 25) = wm)
  unfold Ev.val
  go_enter Tryd.func30, Tryd.ntmps30
  go_upto_region 1 with (fail)
  rw [show (#[.int .i64 0, .int .i64 0, .int .i64 0, .int .i64 0, .int .i64 0, .int .i64 0, .int .i64 0, .string ⟨#[]⟩, .int .i64 0, .string ⟨#[]⟩] : Array Value) = zeroEv.cells from rfl]
  obtain ⟨wn, hwn⟩ := HW.out
  rw [hwn] at hE0 hR0 hab0 hsz ⊢
  clear hwn HW
  have hbm := below_made wn (.cells e.cells 25)
  have hE := hE0.below hbm
  have hR := hR0.below hbm
  have hF := evB_new wn e
  have hab := below_next hab0 hbm
  go_upto_region 2 with (first
    | (with_reducible refine wpList_load_row rfl 25 (.tmp 3) rfl w.heap.size rfl _ #[.int .i64 e.kind, .int .i64 e.order, .int .i64 e.item, .int .i64 e.qty, .int .i64 e.price, .int .i64 e.cur, .int .i64 e.tax, .string e.who, .int .i64 e.stamp, .string e.note] (0, 0) _ hE0.lit Tryd.underlying25 rfl (by with_unfolding_all exact info_ev) ?_))
  rw [show (#[.int .i64 e.kind, .int .i64 e.order, .int .i64 e.item, .int .i64 e.qty, .int .i64 e.price, .int .i64 e.cur, .int .i64 e.tax, .string e.who, .int .i64 e.stamp, .string e.note] : Array Value) = e.cells from rfl]
  have hws : wn.heap.size = w.heap.size + 2 := hsz.symm
  rw [hws] at hF ⊢
  obtain ⟨wm, hwm⟩ : ∃ wm, wn.alloc (.cells e.cells 25) = wm := ⟨_, rfl⟩
  rw [hwm] at hE hR hF hab ⊢
  clear hwm hE0 hR0 hab0 hsz hbm hws
  have g0 : wm.cell? ⟨w.heap.size, 0, none⟩ = some (.int .i64 e.kind) := cell_blk hE.eq rfl
  have g3 : wm.cell? ⟨w.heap.size, 3, none⟩ = some (.int .i64 e.qty) := cell_blk hE.eq rfl
  have g5 : wm.cell? ⟨w.heap.size, 5, none⟩ = some (.int .i64 e.cur) := cell_blk hE.eq rfl
  have f6 : wm.frozen? ⟨w.heap.size + 2, 6, none⟩ = false := free_blk hF.eq
  have d6 : wm.cell? ⟨w.heap.size + 2, 6, none⟩ = some (.int .i64 e.tax) := cell_blk hF.eq rfl
  go_wp2_with (first
    | (with_reducible refine wpList_load_row rfl 25 (.tmp 5) rfl (w.heap.size + 2) rfl _ _ (0, 0) _ (blk_set hF.eq) Tryd.underlying25 rfl (by with_unfolding_all exact info_ev) ?_)
    | (with_reducible refine wpList_store_row rfl 25 (.tmp 4) (.tmp 61) rfl (w.heap.size + 1) (e.up 2).cells rfl (by with_unfolding_all exact HE.out) _ _ (EvB.eq (EvB.put (b := w.heap.size + 2) hR (by omega))) (by with_unfolding_all exact info_ev) (by with_unfolding_all exact rfl) (by with_unfolding_all exact rfl) ?_))
  exact bodyPost_ret (v := (e.up 2).val) (ret_ev rfl rfl (setRow_heap _ (w.heap.size + 1) _ (e.up 2).cells _ _ (EvB.eq (EvB.put (b := w.heap.size + 2) hR (by omega)))) rfl) rfl ⟨rfl, below_row (Below.setCell (p := ⟨w.heap.size + 2, 6, none⟩) hab (by show w.heap.size ≤ w.heap.size + 2; omega) _) (Nat.le_succ _) _⟩

set_option maxHeartbeats 1600000 in
theorem rstep2_na3 (e : Ev) (w : World) (c0 : e.cur = 3) (t0 : e.tax = 0) (q0 : e.qty < 0) (q1 : -10000 ≤ e.qty) (k2 : e.kind = 2) : Calls Tryd.prog 30 #[.int .i64 2, e.val] w fun x w' => x = .returned (e.up 2).val ∧ Below w.heap.size w w' := by
  have b1 : (e.cur == 1) = false := by rw [c0]; rfl
  have b2 : (e.cur == 2) = false := by rw [c0]; rfl
  have b3 : (e.cur == 3) = true := by rw [c0]; rfl
  have hw : wrap64 (0 - e.qty) = -e.qty := by rw [w64 (by omega) (by omega)]; omega
  have hw2 : wrap64 (-e.qty) = -e.qty := w64 (by omega) (by omega)
  have HE : Hid (Value.agg ((((e.cells.setIfInBounds 3 (.int .i64 0)).setIfInBounds 0 (.int .i64 6)).setIfInBounds 3 (.int .i64 (-e.qty))).setIfInBounds 6 (.int .i64 700)) = .agg (e.up 2).cells) := Lib.hid (by have ht : taxOf e.cur = 700 := (by rw [c0]; rfl); show _ = Value.agg (Ev.up2 e).cells; unfold Ev.up2; rw [if_pos ⟨q0, k2⟩, if_pos q0, if_pos k2, ht]; rfl)
  have k2b : (e.kind == 2) = true := by rw [k2]; rfl
  clear k2
  clear c0 t0
  obtain ⟨hE0, hR0, hab0, hsz⟩ := two_new w e zeroEv
  have HW := Lib.hid (⟨_, rfl⟩ : ∃ wm, (w.alloc (.cells e.cells 25)).alloc (.cells zeroEv.cells 25) = wm)
  unfold Ev.val
  go_enter Tryd.func30, Tryd.ntmps30
  go_upto_region 1 with (fail)
  rw [show (#[.int .i64 0, .int .i64 0, .int .i64 0, .int .i64 0, .int .i64 0, .int .i64 0, .int .i64 0, .string ⟨#[]⟩, .int .i64 0, .string ⟨#[]⟩] : Array Value) = zeroEv.cells from rfl]
  obtain ⟨wn, hwn⟩ := HW.out
  rw [hwn] at hE0 hR0 hab0 hsz ⊢
  clear hwn HW
  have hbm := below_made wn (.cells e.cells 25)
  have hE := hE0.below hbm
  have hR := hR0.below hbm
  have hF := evB_new wn e
  have hab := below_next hab0 hbm
  go_upto_region 2 with (first
    | (with_reducible refine wpList_load_row rfl 25 (.tmp 3) rfl w.heap.size rfl _ #[.int .i64 e.kind, .int .i64 e.order, .int .i64 e.item, .int .i64 e.qty, .int .i64 e.price, .int .i64 e.cur, .int .i64 e.tax, .string e.who, .int .i64 e.stamp, .string e.note] (0, 0) _ hE0.lit Tryd.underlying25 rfl (by with_unfolding_all exact info_ev) ?_))
  rw [show (#[.int .i64 e.kind, .int .i64 e.order, .int .i64 e.item, .int .i64 e.qty, .int .i64 e.price, .int .i64 e.cur, .int .i64 e.tax, .string e.who, .int .i64 e.stamp, .string e.note] : Array Value) = e.cells from rfl]
  have hws : wn.heap.size = w.heap.size + 2 := hsz.symm
  rw [hws] at hF ⊢
  obtain ⟨wm, hwm⟩ : ∃ wm, wn.alloc (.cells e.cells 25) = wm := ⟨_, rfl⟩
  rw [hwm] at hE hR hF hab ⊢
  clear hwm hE0 hR0 hab0 hsz hbm hws
  have g0 : wm.cell? ⟨w.heap.size, 0, none⟩ = some (.int .i64 e.kind) := cell_blk hE.eq rfl
  have g3 : wm.cell? ⟨w.heap.size, 3, none⟩ = some (.int .i64 e.qty) := cell_blk hE.eq rfl
  have g5 : wm.cell? ⟨w.heap.size, 5, none⟩ = some (.int .i64 e.cur) := cell_blk hE.eq rfl
  have f0 : wm.frozen? ⟨w.heap.size + 2, 0, none⟩ = false := free_blk hF.eq
  have f3 : wm.frozen? ⟨w.heap.size + 2, 3, none⟩ = false := free_blk hF.eq
  have f6 : wm.frozen? ⟨w.heap.size + 2, 6, none⟩ = false := free_blk hF.eq
  have d0 : wm.cell? ⟨w.heap.size + 2, 0, none⟩ = some (.int .i64 e.kind) := cell_blk hF.eq rfl
  have d3 : wm.cell? ⟨w.heap.size + 2, 3, none⟩ = some (.int .i64 e.qty) := cell_blk hF.eq rfl
  have d6 : wm.cell? ⟨w.heap.size + 2, 6, none⟩ = some (.int .i64 e.tax) := cell_blk hF.eq rfl
  go_wp2_with (first
    | (with_reducible refine wpList_load_row rfl 25 (.tmp 5) rfl (w.heap.size + 2) rfl _ _ (0, 0) _ (blk_set (blk_set (blk_set (blk_set hF.eq)))) Tryd.underlying25 rfl (by with_unfolding_all exact info_ev) ?_)
    | (with_reducible refine wpList_store_row rfl 25 (.tmp 4) (.tmp 61) rfl (w.heap.size + 1) (e.up 2).cells rfl (by with_unfolding_all exact HE.out) _ _ (EvB.eq (EvB.put (b := w.heap.size + 2) (EvB.put (b := w.heap.size + 2) (EvB.put (b := w.heap.size + 2) (EvB.put (b := w.heap.size + 2) hR (by omega)) (by omega)) (by omega)) (by omega))) (by with_unfolding_all exact info_ev) (by with_unfolding_all exact rfl) (by with_unfolding_all exact rfl) ?_))
  exact bodyPost_ret (v := (e.up 2).val) (ret_ev rfl rfl (setRow_heap _ (w.heap.size + 1) _ (e.up 2).cells _ _ (EvB.eq (EvB.put (b := w.heap.size + 2) (EvB.put (b := w.heap.size + 2) (EvB.put (b := w.heap.size + 2) (EvB.put (b := w.heap.size + 2) hR (by omega)) (by omega)) (by omega)) (by omega)))) rfl) rfl ⟨rfl, below_row (Below.setCell (p := ⟨w.heap.size + 2, 6, none⟩) (Below.setCell (p := ⟨w.heap.size + 2, 3, none⟩) (Below.setCell (p := ⟨w.heap.size + 2, 0, none⟩) (Below.setCell (p := ⟨w.heap.size + 2, 3, none⟩) hab (by show w.heap.size ≤ w.heap.size + 2; omega) _) (by show w.heap.size ≤ w.heap.size + 2; omega) _) (by show w.heap.size ≤ w.heap.size + 2; omega) _) (by show w.heap.size ≤ w.heap.size + 2; omega) _) (Nat.le_succ _) _⟩

set_option maxHeartbeats 1600000 in
theorem rstep2_nb3 (e : Ev) (w : World) (c0 : e.cur = 3) (t0 : e.tax = 0) (q0 : e.qty < 0) (k2 : e.kind ≠ 2) : Calls Tryd.prog 30 #[.int .i64 2, e.val] w fun x w' => x = .returned (e.up 2).val ∧ Below w.heap.size w w' := by
  have b1 : (e.cur == 1) = false := by rw [c0]; rfl
  have b2 : (e.cur == 2) = false := by rw [c0]; rfl
  have b3 : (e.cur == 3) = true := by rw [c0]; rfl
  have hk : (e.kind == 2) = false := by simpa using k2
  have HE : Hid (Value.agg ((e.cells.setIfInBounds 3 (.int .i64 0)).setIfInBounds 6 (.int .i64 700)) = .agg (e.up 2).cells) := Lib.hid (by have ht : taxOf e.cur = 700 := (by rw [c0]; rfl); show _ = Value.agg (Ev.up2 e).cells; unfold Ev.up2; rw [if_neg (fun h => k2 h.2), if_pos q0, if_neg k2, ht]; rfl)
  clear c0 t0
  clear k2
  obtain ⟨hE0, hR0, hab0, hsz⟩ := two_new w e zeroEv
  have HW := Lib.hid (⟨_, rfl⟩ : ∃ wm, (w.alloc (.cells e.cells 25)).alloc (.cells zeroEv.cells 25) = wm)
  unfold Ev.val
  go_enter Tryd.func30, Tryd.ntmps30
  go_upto_region 1 with (fail)
  rw [show (#[.int .i64 0, .int .i64 0, .int .i64 0, .int .i64 0, .int .i64 0, .int .i64 0, .int .i64 0, .string ⟨#[]⟩, .int .i64 0, .string ⟨#[]⟩] : Array Value) = zeroEv.cells from rfl]
  obtain ⟨wn, hwn⟩ := HW.out
  rw [hwn] at hE0 hR0 hab0 hsz ⊢
  clear hwn HW
  have hbm := below_made wn (.cells e.cells 25)
  have hE := hE0.below hbm
  have hR := hR0.below hbm
  have hF := evB_new wn e
  have hab := below_next hab0 hbm
  go_upto_region 2 with (first
    | (with_reducible refine wpList_load_row rfl 25 (.tmp 3) rfl w.heap.size rfl _ #[.int .i64 e.kind, .int .i64 e.order, .int .i64 e.item, .int .i64 e.qty, .int .i64 e.price, .int .i64 e.cur, .int .i64 e.tax, .string e.who, .int .i64 e.stamp, .string e.note] (0, 0) _ hE0.lit Tryd.underlying25 rfl (by with_unfolding_all exact info_ev) ?_))
  rw [show (#[.int .i64 e.kind, .int .i64 e.order, .int .i64 e.item, .int .i64 e.qty, .int .i64 e.price, .int .i64 e.cur, .int .i64 e.tax, .string e.who, .int .i64 e.stamp, .string e.note] : Array Value) = e.cells from rfl]
  have hws : wn.heap.size = w.heap.size + 2 := hsz.symm
  rw [hws] at hF ⊢
  obtain ⟨wm, hwm⟩ : ∃ wm, wn.alloc (.cells e.cells 25) = wm := ⟨_, rfl⟩
  rw [hwm] at hE hR hF hab ⊢
  clear hwm hE0 hR0 hab0 hsz hbm hws
  have g0 : wm.cell? ⟨w.heap.size, 0, none⟩ = some (.int .i64 e.kind) := cell_blk hE.eq rfl
  have g3 : wm.cell? ⟨w.heap.size, 3, none⟩ = some (.int .i64 e.qty) := cell_blk hE.eq rfl
  have g5 : wm.cell? ⟨w.heap.size, 5, none⟩ = some (.int .i64 e.cur) := cell_blk hE.eq rfl
  have f3 : wm.frozen? ⟨w.heap.size + 2, 3, none⟩ = false := free_blk hF.eq
  have f6 : wm.frozen? ⟨w.heap.size + 2, 6, none⟩ = false := free_blk hF.eq
  have d3 : wm.cell? ⟨w.heap.size + 2, 3, none⟩ = some (.int .i64 e.qty) := cell_blk hF.eq rfl
  have d6 : wm.cell? ⟨w.heap.size + 2, 6, none⟩ = some (.int .i64 e.tax) := cell_blk hF.eq rfl
  go_wp2_with (first
    | (with_reducible refine wpList_load_row rfl 25 (.tmp 5) rfl (w.heap.size + 2) rfl _ _ (0, 0) _ (blk_set (blk_set hF.eq)) Tryd.underlying25 rfl (by with_unfolding_all exact info_ev) ?_)
    | (with_reducible refine wpList_store_row rfl 25 (.tmp 4) (.tmp 61) rfl (w.heap.size + 1) (e.up 2).cells rfl (by with_unfolding_all exact HE.out) _ _ (EvB.eq (EvB.put (b := w.heap.size + 2) (EvB.put (b := w.heap.size + 2) hR (by omega)) (by omega))) (by with_unfolding_all exact info_ev) (by with_unfolding_all exact rfl) (by with_unfolding_all exact rfl) ?_))
  exact bodyPost_ret (v := (e.up 2).val) (ret_ev rfl rfl (setRow_heap _ (w.heap.size + 1) _ (e.up 2).cells _ _ (EvB.eq (EvB.put (b := w.heap.size + 2) (EvB.put (b := w.heap.size + 2) hR (by omega)) (by omega)))) rfl) rfl ⟨rfl, below_row (Below.setCell (p := ⟨w.heap.size + 2, 6, none⟩) (Below.setCell (p := ⟨w.heap.size + 2, 3, none⟩) hab (by show w.heap.size ≤ w.heap.size + 2; omega) _) (by show w.heap.size ≤ w.heap.size + 2; omega) _) (Nat.le_succ _) _⟩

set_option maxHeartbeats 1600000 in
theorem rstep2_p3 (e : Ev) (w : World) (c0 : e.cur = 3) (t0 : e.tax = 0) (q0 : ¬ e.qty < 0) : Calls Tryd.prog 30 #[.int .i64 2, e.val] w fun x w' => x = .returned (e.up 2).val ∧ Below w.heap.size w w' := by
  have b1 : (e.cur == 1) = false := by rw [c0]; rfl
  have b2 : (e.cur == 2) = false := by rw [c0]; rfl
  have b3 : (e.cur == 3) = true := by rw [c0]; rfl
  have HE : Hid (Value.agg (e.cells.setIfInBounds 6 (.int .i64 700)) = .agg (e.up 2).cells) := Lib.hid (by have ht : taxOf e.cur = 700 := (by rw [c0]; rfl); show _ = Value.agg (Ev.up2 e).cells; unfold Ev.up2; rw [if_neg (fun h => q0 h.1), if_neg q0, ht]; rfl)
  clear c0 t0
  obtain ⟨hE0, hR0, hab0, hsz⟩ := two_new w e zeroEv
  have HW := Lib.hid (⟨_, rfl⟩ : ∃ wm, (w.alloc (.cells e.cells 25)).alloc (.cells zeroEv.cells 25) = wm)
  unfold Ev.val
  go_enter Tryd.func30, Tryd.ntmps30
  go_upto_region 1 with (fail)
  rw [show (#[.int .i64 0, .int .i64 0, .int .i64 0, .int .i64 0, .int .i64 0, .int .i64 0, .int .i64 0, .string ⟨#[]⟩, .int .i64 0, .string ⟨#[]⟩] : Array Value) = zeroEv.cells from rfl]
  obtain ⟨wn, hwn⟩ := HW.out
  rw [hwn] at hE0 hR0 hab0 hsz ⊢
  clear hwn HW
  have hbm := below_made wn (.cells e.cells 25)
  have hE := hE0.below hbm
  have hR := hR0.below hbm
  have hF := evB_new wn e
  have hab := below_next hab0 hbm
  go_upto_region 2 with (first
    | (with_reducible refine wpList_load_row rfl 25 (.tmp 3) rfl w.heap.size rfl _ #[.int .i64 e.kind, .int .i64 e.order, .int .i64 e.item, .int .i64 e.qty, .int .i64 e.price, .int .i64 e.cur, .int .i64 e.tax, .string e.who, .int .i64 e.stamp, .string e.note] (0, 0) _ hE0.lit Tryd.underlying25 rfl (by with_unfolding_all exact info_ev) ?_))
  rw [show (#[.int .i64 e.kind, .int .i64 e.order, .int .i64 e.item, .int .i64 e.qty, .int .i64 e.price, .int .i64 e.cur, .int .i64 e.tax, .string e.who, .int .i64 e.stamp, .string e.note] : Array Value) = e.cells from rfl]
  have hws : wn.heap.size = w.heap.size + 2 := hsz.symm
  rw [hws] at hF ⊢
  obtain ⟨wm, hwm⟩ : ∃ wm, wn.alloc (.cells e.cells 25) = wm := ⟨_, rfl⟩
  rw [hwm] at hE hR hF hab ⊢
  clear hwm hE0 hR0 hab0 hsz hbm hws
  have g0 : wm.cell? ⟨w.heap.size, 0, none⟩ = some (.int .i64 e.kind) := cell_blk hE.eq rfl
  have g3 : wm.cell? ⟨w.heap.size, 3, none⟩ = some (.int .i64 e.qty) := cell_blk hE.eq rfl
  have g5 : wm.cell? ⟨w.heap.size, 5, none⟩ = some (.int .i64 e.cur) := cell_blk hE.eq rfl
  have f6 : wm.frozen? ⟨w.heap.size + 2, 6, none⟩ = false := free_blk hF.eq
  have d6 : wm.cell? ⟨w.heap.size + 2, 6, none⟩ = some (.int .i64 e.tax) := cell_blk hF.eq rfl
  go_wp2_with (first
    | (with_reducible refine wpList_load_row rfl 25 (.tmp 5) rfl (w.heap.size + 2) rfl _ _ (0, 0) _ (blk_set hF.eq) Tryd.underlying25 rfl (by with_unfolding_all exact info_ev) ?_)
    | (with_reducible refine wpList_store_row rfl 25 (.tmp 4) (.tmp 61) rfl (w.heap.size + 1) (e.up 2).cells rfl (by with_unfolding_all exact HE.out) _ _ (EvB.eq (EvB.put (b := w.heap.size + 2) hR (by omega))) (by with_unfolding_all exact info_ev) (by with_unfolding_all exact rfl) (by with_unfolding_all exact rfl) ?_))
  exact bodyPost_ret (v := (e.up 2).val) (ret_ev rfl rfl (setRow_heap _ (w.heap.size + 1) _ (e.up 2).cells _ _ (EvB.eq (EvB.put (b := w.heap.size + 2) hR (by omega)))) rfl) rfl ⟨rfl, below_row (Below.setCell (p := ⟨w.heap.size + 2, 6, none⟩) hab (by show w.heap.size ≤ w.heap.size + 2; omega) _) (Nat.le_succ _) _⟩

set_option maxHeartbeats 1600000 in
theorem rstep3_all (e : Ev) (w : World)  : Calls Tryd.prog 30 #[.int .i64 3, e.val] w fun x w' => x = .returned (e.up 3).val ∧ Below w.heap.size w w' := by
  have HE : Hid (Value.agg ((e.cells.setIfInBounds 7 (.string ⟨#[111, 108, 100]⟩))) = .agg (e.up 3).cells) := Lib.hid (by rfl)
  obtain ⟨hE0, hR0, hab0, hsz⟩ := two_new w e zeroEv
  have HW := Lib.hid (⟨_, rfl⟩ : ∃ wm, (w.alloc (.cells e.cells 25)).alloc (.cells zeroEv.cells 25) = wm)
  unfold Ev.val
  go_enter Tryd.func30, Tryd.ntmps30
  go_upto_region 1 with (fail)
  rw [show (#[.int .i64 0, .int .i64 0, .int .i64 0, .int .i64 0, .int .i64 0, .int .i64 0, .int .i64 0, .string ⟨#[]⟩, .int .i64 0, .string ⟨#[]⟩] : Array Value) = zeroEv.cells from rfl]
  obtain ⟨wn, hwn⟩ := HW.out
  rw [hwn] at hE0 hR0 hab0 hsz ⊢
  clear hwn HW
  have hbm := below_made wn (.cells e.cells 25)
  have hE := hE0.below hbm
  have hR := hR0.below hbm
  have hF := evB_new wn e
  have hab := below_next hab0 hbm
  go_upto_region 2 with (first
    | (with_reducible refine wpList_load_row rfl 25 (.tmp 3) rfl w.heap.size rfl _ #[.int .i64 e.kind, .int .i64 e.order, .int .i64 e.item, .int .i64 e.qty, .int .i64 e.price, .int .i64 e.cur, .int .i64 e.tax, .string e.who, .int .i64 e.stamp, .string e.note] (0, 0) _ hE0.lit Tryd.underlying25 rfl (by with_unfolding_all exact info_ev) ?_))
  rw [show (#[.int .i64 e.kind, .int .i64 e.order, .int .i64 e.item, .int .i64 e.qty, .int .i64 e.price, .int .i64 e.cur, .int .i64 e.tax, .string e.who, .int .i64 e.stamp, .string e.note] : Array Value) = e.cells from rfl]
  have hws : wn.heap.size = w.heap.size + 2 := hsz.symm
  rw [hws] at hF ⊢
  obtain ⟨wm, hwm⟩ : ∃ wm, wn.alloc (.cells e.cells 25) = wm := ⟨_, rfl⟩
  rw [hwm] at hE hR hF hab ⊢
  clear hwm hE0 hR0 hab0 hsz hbm hws
  have f7 : wm.frozen? ⟨w.heap.size + 2, 7, none⟩ = false := free_blk hF.eq
  have d7 : wm.cell? ⟨w.heap.size + 2, 7, none⟩ = some (.string e.who) := cell_blk hF.eq rfl
  go_wp2_with (first
    | (with_reducible refine wpList_load_row rfl 25 (.tmp 5) rfl (w.heap.size + 2) rfl _ _ (0, 0) _ (blk_set hF.eq) Tryd.underlying25 rfl (by with_unfolding_all exact info_ev) ?_)
    | (with_reducible refine wpList_store_row rfl 25 (.tmp 4) (.tmp 61) rfl (w.heap.size + 1) (e.up 3).cells rfl (by with_unfolding_all exact HE.out) _ _ (EvB.eq (EvB.put (b := w.heap.size + 2) hR (by omega))) (by with_unfolding_all exact info_ev) (by with_unfolding_all exact rfl) (by with_unfolding_all exact rfl) ?_))
  exact bodyPost_ret (v := (e.up 3).val) (ret_ev rfl rfl (setRow_heap _ (w.heap.size + 1) _ (e.up 3).cells _ _ (EvB.eq (EvB.put (b := w.heap.size + 2) hR (by omega)))) rfl) rfl ⟨rfl, below_row (Below.setCell (p := ⟨w.heap.size + 2, 7, none⟩) hab (by show w.heap.size ≤ w.heap.size + 2; omega) _) (Nat.le_succ _) _⟩

set_option maxHeartbeats 1600000 in
theorem rstep4_yes (e : Ev) (w : World) (k4 : e.kind = 4) (q0 : e.qty = 0) : Calls Tryd.prog 30 #[.int .i64 4, e.val] w fun x w' => x = .returned (e.up 4).val ∧ Below w.heap.size w w' := by
  have HE : Hid (Value.agg (((e.cells.setIfInBounds 0 (.int .i64 10)).setIfInBounds 2 (.int .i64 0))) = .agg (e.up 4).cells) := Lib.hid (by show _ = Value.agg (Ev.up4 e).cells; unfold Ev.up4; rw [if_pos ⟨k4, q0⟩, if_pos ⟨k4, q0⟩]; rfl)
  have k4b : (e.kind == 4) = true := by rw [k4]; rfl
  have q0b : (e.qty == 0) = true := by rw [q0]; rfl
  clear k4 q0
  obtain ⟨hE0, hR0, hab0, hsz⟩ := two_new w e zeroEv
  have HW := Lib.hid (⟨_, rfl⟩ : ∃ wm, (w.alloc (.cells e.cells 25)).alloc (.cells zeroEv.cells 25) = wm)
  unfold Ev.val
  go_enter Tryd.func30, Tryd.ntmps30
  go_upto_region 1 with (fail)
  rw [show (#[.int .i64 0, .int .i64 0, .int .i64 0, .int .i64 0, .int .i64 0, .int .i64 0, .int .i64 0, .string ⟨#[]⟩, .int .i64 0, .string ⟨#[]⟩] : Array Value) = zeroEv.cells from rfl]
  obtain ⟨wn, hwn⟩ := HW.out
  rw [hwn] at hE0 hR0 hab0 hsz ⊢
  clear hwn HW
  have hbm := below_made wn (.cells e.cells 25)
  have hE := hE0.below hbm
  have hR := hR0.below hbm
  have hF := evB_new wn e
  have hab := below_next hab0 hbm
  go_upto_region 2 with (first
    | (with_reducible refine wpList_load_row rfl 25 (.tmp 3) rfl w.heap.size rfl _ #[.int .i64 e.kind, .int .i64 e.order, .int .i64 e.item, .int .i64 e.qty, .int .i64 e.price, .int .i64 e.cur, .int .i64 e.tax, .string e.who, .int .i64 e.stamp, .string e.note] (0, 0) _ hE0.lit Tryd.underlying25 rfl (by with_unfolding_all exact info_ev) ?_))
  rw [show (#[.int .i64 e.kind, .int .i64 e.order, .int .i64 e.item, .int .i64 e.qty, .int .i64 e.price, .int .i64 e.cur, .int .i64 e.tax, .string e.who, .int .i64 e.stamp, .string e.note] : Array Value) = e.cells from rfl]
  have hws : wn.heap.size = w.heap.size + 2 := hsz.symm
  rw [hws] at hF ⊢
  obtain ⟨wm, hwm⟩ : ∃ wm, wn.alloc (.cells e.cells 25) = wm := ⟨_, rfl⟩
  rw [hwm] at hE hR hF hab ⊢
  clear hwm hE0 hR0 hab0 hsz hbm hws
  have g0 : wm.cell? ⟨w.heap.size, 0, none⟩ = some (.int .i64 e.kind) := cell_blk hE.eq rfl
  have g3 : wm.cell? ⟨w.heap.size, 3, none⟩ = some (.int .i64 e.qty) := cell_blk hE.eq rfl
  have f0 : wm.frozen? ⟨w.heap.size + 2, 0, none⟩ = false := free_blk hF.eq
  have f2 : wm.frozen? ⟨w.heap.size + 2, 2, none⟩ = false := free_blk hF.eq
  have d0 : wm.cell? ⟨w.heap.size + 2, 0, none⟩ = some (.int .i64 e.kind) := cell_blk hF.eq rfl
  have d2 : wm.cell? ⟨w.heap.size + 2, 2, none⟩ = some (.int .i64 e.item) := cell_blk hF.eq rfl
  go_wp2_with (first
    | (with_reducible refine wpList_load_row rfl 25 (.tmp 5) rfl (w.heap.size + 2) rfl _ _ (0, 0) _ (blk_set (blk_set hF.eq)) Tryd.underlying25 rfl (by with_unfolding_all exact info_ev) ?_)
    | (with_reducible refine wpList_store_row rfl 25 (.tmp 4) (.tmp 61) rfl (w.heap.size + 1) (e.up 4).cells rfl (by with_unfolding_all exact HE.out) _ _ (EvB.eq (EvB.put (b := w.heap.size + 2) (EvB.put (b := w.heap.size + 2) hR (by omega)) (by omega))) (by with_unfolding_all exact info_ev) (by with_unfolding_all exact rfl) (by with_unfolding_all exact rfl) ?_))
  exact bodyPost_ret (v := (e.up 4).val) (ret_ev rfl rfl (setRow_heap _ (w.heap.size + 1) _ (e.up 4).cells _ _ (EvB.eq (EvB.put (b := w.heap.size + 2) (EvB.put (b := w.heap.size + 2) hR (by omega)) (by omega)))) rfl) rfl ⟨rfl, below_row (Below.setCell (p := ⟨w.heap.size + 2, 2, none⟩) (Below.setCell (p := ⟨w.heap.size + 2, 0, none⟩) hab (by show w.heap.size ≤ w.heap.size + 2; omega) _) (by show w.heap.size ≤ w.heap.size + 2; omega) _) (Nat.le_succ _) _⟩

set_option maxHeartbeats 1600000 in
theorem rstep4_k (e : Ev) (w : World) (k4 : e.kind ≠ 4) : Calls Tryd.prog 30 #[.int .i64 4, e.val] w fun x w' => x = .returned (e.up 4).val ∧ Below w.heap.size w w' := by
  have HE : Hid (Value.agg (e.cells) = .agg (e.up 4).cells) := Lib.hid (by show _ = Value.agg (Ev.up4 e).cells; unfold Ev.up4; rw [if_neg (fun h => k4 h.1), if_neg (fun h => k4 h.1)])
  have k4b : (e.kind == 4) = false := by simpa using k4
  clear k4
  obtain ⟨hE0, hR0, hab0, hsz⟩ := two_new w e zeroEv
  have HW := Lib.hid (⟨_, rfl⟩ : ∃ wm, (w.alloc (.cells e.cells 25)).alloc (.cells zeroEv.cells 25) = wm)
  unfold Ev.val
  go_enter Tryd.func30, Tryd.ntmps30
  go_upto_region 1 with (fail)
  rw [show (#[.int .i64 0, .int .i64 0, .int .i64 0, .int .i64 0, .int .i64 0, .int .i64 0, .int .i64 0, .string ⟨#[]⟩, .int .i64 0, .string ⟨#[]⟩] : Array Value) = zeroEv.cells from rfl]
  obtain ⟨wn, hwn⟩ := HW.out
  rw [hwn] at hE0 hR0 hab0 hsz ⊢
  clear hwn HW
  have hbm := below_made wn (.cells e.cells 25)
  have hE := hE0.below hbm
  have hR := hR0.below hbm
  have hF := evB_new wn e
  have hab := below_next hab0 hbm
  go_upto_region 2 with (first
    | (with_reducible refine wpList_load_row rfl 25 (.tmp 3) rfl w.heap.size rfl _ #[.int .i64 e.kind, .int .i64 e.order, .int .i64 e.item, .int .i64 e.qty, .int .i64 e.price, .int .i64 e.cur, .int .i64 e.tax, .string e.who, .int .i64 e.stamp, .string e.note] (0, 0) _ hE0.lit Tryd.underlying25 rfl (by with_unfolding_all exact info_ev) ?_))
  rw [show (#[.int .i64 e.kind, .int .i64 e.order, .int .i64 e.item, .int .i64 e.qty, .int .i64 e.price, .int .i64 e.cur, .int .i64 e.tax, .string e.who, .int .i64 e.stamp, .string e.note] : Array Value) = e.cells from rfl]
  have hws : wn.heap.size = w.heap.size + 2 := hsz.symm
  rw [hws] at hF ⊢
  obtain ⟨wm, hwm⟩ : ∃ wm, wn.alloc (.cells e.cells 25) = wm := ⟨_, rfl⟩
  rw [hwm] at hE hR hF hab ⊢
  clear hwm hE0 hR0 hab0 hsz hbm hws
  have g0 : wm.cell? ⟨w.heap.size, 0, none⟩ = some (.int .i64 e.kind) := cell_blk hE.eq rfl
  have g3 : wm.cell? ⟨w.heap.size, 3, none⟩ = some (.int .i64 e.qty) := cell_blk hE.eq rfl
  go_wp2_with (first
    | (with_reducible refine wpList_load_row rfl 25 (.tmp 5) rfl (w.heap.size + 2) rfl _ _ (0, 0) _ hF.eq Tryd.underlying25 rfl (by with_unfolding_all exact info_ev) ?_)
    | (with_reducible refine wpList_store_row rfl 25 (.tmp 4) (.tmp 61) rfl (w.heap.size + 1) (e.up 4).cells rfl (by with_unfolding_all exact HE.out) _ _ (EvB.eq hR) (by with_unfolding_all exact info_ev) (by with_unfolding_all exact rfl) (by with_unfolding_all exact rfl) ?_))
  exact bodyPost_ret (v := (e.up 4).val) (ret_ev rfl rfl (setRow_heap _ (w.heap.size + 1) _ (e.up 4).cells _ _ (EvB.eq hR)) rfl) rfl ⟨rfl, below_row hab (Nat.le_succ _) _⟩

set_option maxHeartbeats 1600000 in
theorem rstep4_q (e : Ev) (w : World) (k4 : e.kind = 4) (q0 : e.qty ≠ 0) : Calls Tryd.prog 30 #[.int .i64 4, e.val] w fun x w' => x = .returned (e.up 4).val ∧ Below w.heap.size w w' := by
  have HE : Hid (Value.agg (e.cells) = .agg (e.up 4).cells) := Lib.hid (by show _ = Value.agg (Ev.up4 e).cells; unfold Ev.up4; rw [if_neg (fun h => q0 h.2), if_neg (fun h => q0 h.2)])
  have k4b : (e.kind == 4) = true := by rw [k4]; rfl
  have q0b : (e.qty == 0) = false := by simpa using q0
  clear k4 q0
  obtain ⟨hE0, hR0, hab0, hsz⟩ := two_new w e zeroEv
  have HW := Lib.hid (⟨_, rfl⟩ : ∃ wm, (w.alloc (.cells e.cells 25)).alloc (.cells zeroEv.cells 25) = wm)
  unfold Ev.val
  go_enter Tryd.func30, Tryd.ntmps30
  go_upto_region 1 with (fail)
  rw [show (#[.int .i64 0, .int .i64 0, .int .i64 0, .int .i64 0, .int .i64 0, .int .i64 0, .int .i64 0, .string ⟨#[]⟩, .int .i64 0, .string ⟨#[]⟩] : Array Value) = zeroEv.cells from rfl]
  obtain ⟨wn, hwn⟩ := HW.out
  rw [hwn] at hE0 hR0 hab0 hsz ⊢
  clear hwn HW
  have hbm := below_made wn (.cells e.cells 25)
  have hE := hE0.below hbm
  have hR := hR0.below hbm
  have hF := evB_new wn e
  have hab := below_next hab0 hbm
  go_upto_region 2 with (first
    | (with_reducible refine wpList_load_row rfl 25 (.tmp 3) rfl w.heap.size rfl _ #[.int .i64 e.kind, .int .i64 e.order, .int .i64 e.item, .int .i64 e.qty, .int .i64 e.price, .int .i64 e.cur, .int .i64 e.tax, .string e.who, .int .i64 e.stamp, .string e.note] (0, 0) _ hE0.lit Tryd.underlying25 rfl (by with_unfolding_all exact info_ev) ?_))
  rw [show (#[.int .i64 e.kind, .int .i64 e.order, .int .i64 e.item, .int .i64 e.qty, .int .i64 e.price, .int .i64 e.cur, .int .i64 e.tax, .string e.who, .int .i64 e.stamp, .string e.note] : Array Value) = e.cells from rfl]
  have hws : wn.heap.size = w.heap.size + 2 := hsz.symm
  rw [hws] at hF ⊢
  obtain ⟨wm, hwm⟩ : ∃ wm, wn.alloc (.cells e.cells 25) = wm := ⟨_, rfl⟩
  rw [hwm] at hE hR hF hab ⊢
  clear hwm hE0 hR0 hab0 hsz hbm hws
  have g0 : wm.cell? ⟨w.heap.size, 0, none⟩ = some (.int .i64 e.kind) := cell_blk hE.eq rfl
  have g3 : wm.cell? ⟨w.heap.size, 3, none⟩ = some (.int .i64 e.qty) := cell_blk hE.eq rfl
  go_wp2_with (first
    | (with_reducible refine wpList_load_row rfl 25 (.tmp 5) rfl (w.heap.size + 2) rfl _ _ (0, 0) _ hF.eq Tryd.underlying25 rfl (by with_unfolding_all exact info_ev) ?_)
    | (with_reducible refine wpList_store_row rfl 25 (.tmp 4) (.tmp 61) rfl (w.heap.size + 1) (e.up 4).cells rfl (by with_unfolding_all exact HE.out) _ _ (EvB.eq hR) (by with_unfolding_all exact info_ev) (by with_unfolding_all exact rfl) (by with_unfolding_all exact rfl) ?_))
  exact bodyPost_ret (v := (e.up 4).val) (ret_ev rfl rfl (setRow_heap _ (w.heap.size + 1) _ (e.up 4).cells _ _ (EvB.eq hR)) rfl) rfl ⟨rfl, below_row hab (Nat.le_succ _) _⟩

theorem rstep_any (v : Int) (e : Ev) (w : World) (h : Right v e) (hv : v < 5) : Calls Tryd.prog 30 #[.int .i64 v, e.val] w fun x w' => x = .returned (e.up v).val ∧ Below w.heap.size w w' := by
  have hc : v = 1 ∨ v = 2 ∨ v = 3 ∨ v = 4 := by have := h.v1; omega
  rcases hc with rfl | rfl | rfl | rfl
  · exact rstep1_all e w h.p.1 (h.p1 rfl)
  · have t0 := h.t2 (by decide)
    have hq := h.q
    have hcur : e.cur = 0 ∨ e.cur = 1 ∨ e.cur = 2 ∨ e.cur = 3 := by have := h.c; omega
    by_cases q0 : e.qty < 0
    · by_cases k2 : e.kind = 2
      · rcases hcur with c | c | c | c
        · exact rstep2_na0 e w c t0 q0 hq.1 k2
        · exact rstep2_na1 e w c t0 q0 hq.1 k2
        · exact rstep2_na2 e w c t0 q0 hq.1 k2
        · exact rstep2_na3 e w c t0 q0 hq.1 k2
      · rcases hcur with c | c | c | c
        · exact rstep2_nb0 e w c t0 q0 k2
        · exact rstep2_nb1 e w c t0 q0 k2
        · exact rstep2_nb2 e w c t0 q0 k2
        · exact rstep2_nb3 e w c t0 q0 k2
    · rcases hcur with c | c | c | c
      · exact rstep2_p0 e w c t0 q0
      · exact rstep2_p1 e w c t0 q0
      · exact rstep2_p2 e w c t0 q0
      · exact rstep2_p3 e w c t0 q0
  · exact rstep3_all e w
  · by_cases k4 : e.kind = 4
    · by_cases q0 : e.qty = 0
      · exact rstep4_yes e w k4 q0
      · exact rstep4_q e w k4 q0
    · exact rstep4_k e w k4
end Go.Proofs.YtkdpingniohfhaaDoor
