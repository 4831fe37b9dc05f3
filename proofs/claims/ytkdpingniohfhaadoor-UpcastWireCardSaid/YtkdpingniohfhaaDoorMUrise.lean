/-
  The walks of rise, version by version, printed by genrise.py. Condition: the program's table of taxes holds what its text lays; a right event of the version.
-/
import Derived.Test.YtkdpingniohfhaaDoorMUa
import Derived.Deep.Cut
namespace Go.Proofs.YtkdpingniohfhaaDoor
open Go.RowKit
set_option linter.unusedVariables false

theorem evB_new (w : World) (e : Ev) : EvB (w.alloc (.cells e.cells 25)) w.heap.size e := heap_alloc_new w _
def zeroEv : Ev := ⟨0, 0, 0, 0, 0, 0, 0, ⟨#[]⟩, 0, ⟨#[]⟩⟩
/-- A block for an event, and one for the answer. -/
theorem two_new (w : World) (e f : Ev) : EvB ((w.alloc (.cells e.cells 25)).alloc (.cells f.cells 25)) w.heap.size e ∧ EvB ((w.alloc (.cells e.cells 25)).alloc (.cells f.cells 25)) (w.heap.size + 1) f ∧ Below w.heap.size w ((w.alloc (.cells e.cells 25)).alloc (.cells f.cells 25)) ∧ w.heap.size + 2 = ((w.alloc (.cells e.cells 25)).alloc (.cells f.cells 25)).heap.size := by
  have hb1 := below_made w (.cells e.cells 25)
  have hb2 := below_made (w.alloc (.cells e.cells 25)) (.cells f.cells 25)
  have hs : (w.alloc (.cells e.cells 25)).heap.size = w.heap.size + 1 := by simp
  have h := heap_alloc_new (w.alloc (.cells e.cells 25)) (.cells f.cells 25)
  rw [hs] at h
  exact ⟨(hb2.block _ (by omega)).trans (heap_alloc_new w _), h, below_next hb1 hb2, by simp⟩
theorem EvB.below {w w' : World} {b : Nat} {e : Ev} (h : EvB w b e) (hb : Below w.heap.size w w') : EvB w' b e := below_blk hb h
theorem EvB.turned {w w' : World} {b c : Nat} {e : Ev} (h : EvB w c e) (hg : w.grownBy w' (some b)) (hb : c ≠ b) : EvB w' c e := blk_turned h hg hb
theorem EvB.eq {w : World} {b : Nat} {e : Ev} (h : EvB w b e) : w.heap[b]? = some (.cells e.cells 25 (0, 0)) := h
theorem EvB.lt {w : World} {b : Nat} {e : Ev} (h : EvB w b e) : b < w.heap.size := lt_of_block h

set_option maxHeartbeats 1600000 in
theorem rise1 (e : Ev) (w : World) (ht : Tab w) (hR : Right 1 e) : Calls Tryd.prog 13 #[.int .i64 1, e.val] w fun x w' => x = .returned (e.up1.up2.up3.up4).val ∧ Below w.heap.size w w' := by
  have hlt := ht.lt
  have hq1 : -10000 ≤ (e.up1).qty := hR.q.1
  have hq2 : (e.up1).qty ≤ 10000 := hR.q.2
  have hc1 : 0 ≤ (e.up1).cur := hR.c.1
  have hc2 : (e.up1).cur ≤ 3 := hR.c.2
  obtain ⟨hE, hR2, hab, hsz⟩ := two_new w e zeroEv
  have hT := ht.below hab
  have hsz0 : w.heap.size ≤ ((w.alloc (.cells e.cells 25)).alloc (.cells zeroEv.cells 25)).heap.size := by omega
  clear hsz ht
  have HW := Lib.hid (⟨_, rfl⟩ : ∃ wm, (w.alloc (.cells e.cells 25)).alloc (.cells zeroEv.cells 25) = wm)
  unfold Ev.val
  go_enter Tryd.func13, Tryd.ntmps13
  go_upto_region 1 with (fail)
  rw [show (#[.int .i64 0, .int .i64 0, .int .i64 0, .int .i64 0, .int .i64 0, .int .i64 0, .int .i64 0, .string ⟨#[]⟩, .int .i64 0, .string ⟨#[]⟩] : Array Value) = zeroEv.cells from rfl]
  obtain ⟨wm, hwm⟩ := HW.out
  rw [hwm] at hE hR2 hab hT hsz0 ⊢
  clear hwm HW
  go_wp2_with fail
  (with_reducible refine (hund_any w.heap.size e _ hE hR.p.1 (hR.p1 rfl)).mono ?_)
  rintro x w1 ⟨⟨r1, rfl⟩, hE1, hg1⟩
  have hT1 := hT.turned hg1 hlt
  have hab1 := below_turned hab hg1 hsz0 (Nat.le_refl _)
  have hZ1 := hR2.turned hg1 (by omega)
  have hsz1 := Nat.le_trans hsz0 hg1.size
  clear hg1
  go_wp2_with fail
  (with_reducible refine (drops_any w.heap.size (e.up1) _ hE1 hT1 hlt hq1 hq2 hc1 hc2).mono ?_)
  rintro x w2 ⟨⟨r2, rfl⟩, hE2, hg2⟩
  have hT2 := hT1.turned hg2 hlt
  have hab2 := below_turned hab1 hg2 hsz1 (Nat.le_refl _)
  have hZ2 := hZ1.turned hg2 (by omega)
  have hsz2 := Nat.le_trans hsz1 hg2.size
  clear hg2
  go_wp2_with fail
  (with_reducible refine (signed_any w.heap.size (e.up1.up2) _ hE2).mono ?_)
  rintro x w3 ⟨⟨r3, rfl⟩, hE3, hg3⟩
  have hT3 := hT2.turned hg3 hlt
  have hab3 := below_turned hab2 hg3 hsz2 (Nat.le_refl _)
  have hZ3 := hZ2.turned hg3 (by omega)
  have hsz3 := Nat.le_trans hsz2 hg3.size
  clear hg3
  go_wp2_with fail
  (with_reducible refine (clears_any w.heap.size (e.up1.up2.up3) _ hE3).mono ?_)
  rintro x w4 ⟨⟨r4, rfl⟩, hE4, hg4⟩
  have hT4 := hT3.turned hg4 hlt
  have hab4 := below_turned hab3 hg4 hsz3 (Nat.le_refl _)
  have hZ4 := hZ3.turned hg4 (by omega)
  have hsz4 := Nat.le_trans hsz3 hg4.size
  clear hg4
  go_wp2_with (first
    | (with_reducible refine wpList_load_row rfl 25 (.tmp 3) rfl w.heap.size rfl _ (e.up1.up2.up3.up4).cells (0, 0) _ hE4.eq Tryd.underlying25 rfl (by with_unfolding_all exact info_ev) ?_)
    | (with_reducible refine wpList_store_row rfl 25 (.tmp 4) (.tmp 18) rfl (w.heap.size + 1) (e.up1.up2.up3.up4).cells rfl rfl _ _ hZ4.eq (by with_unfolding_all exact info_ev) (by with_unfolding_all exact rfl) (by with_unfolding_all exact rfl) ?_))
  have hgr := setRow_heap _ (w.heap.size + 1) _ (e.up1.up2.up3.up4).cells _ _ hZ4.eq
  exact bodyPost_ret (v := (e.up1.up2.up3.up4).val) (ret_ev rfl rfl hgr rfl) rfl ⟨rfl, below_row hab4 (Nat.le_succ _) _⟩

set_option maxHeartbeats 1600000 in
theorem rise2 (e : Ev) (w : World) (ht : Tab w) (hR : Right 2 e) : Calls Tryd.prog 13 #[.int .i64 2, e.val] w fun x w' => x = .returned (e.up2.up3.up4).val ∧ Below w.heap.size w w' := by
  have hlt := ht.lt
  have hq1 : -10000 ≤ e.qty := hR.q.1
  have hq2 : e.qty ≤ 10000 := hR.q.2
  have hc1 : 0 ≤ e.cur := hR.c.1
  have hc2 : e.cur ≤ 3 := hR.c.2
  obtain ⟨hE, hR2, hab, hsz⟩ := two_new w e zeroEv
  have hT := ht.below hab
  have hsz0 : w.heap.size ≤ ((w.alloc (.cells e.cells 25)).alloc (.cells zeroEv.cells 25)).heap.size := by omega
  clear hsz ht
  have HW := Lib.hid (⟨_, rfl⟩ : ∃ wm, (w.alloc (.cells e.cells 25)).alloc (.cells zeroEv.cells 25) = wm)
  unfold Ev.val
  go_enter Tryd.func13, Tryd.ntmps13
  go_upto_region 1 with (fail)
  rw [show (#[.int .i64 0, .int .i64 0, .int .i64 0, .int .i64 0, .int .i64 0, .int .i64 0, .int .i64 0, .string ⟨#[]⟩, .int .i64 0, .string ⟨#[]⟩] : Array Value) = zeroEv.cells from rfl]
  obtain ⟨wm, hwm⟩ := HW.out
  rw [hwm] at hE hR2 hab hT hsz0 ⊢
  clear hwm HW
  go_wp2_with fail
  (with_reducible refine (drops_any w.heap.size e _ hE hT hlt hq1 hq2 hc1 hc2).mono ?_)
  rintro x w1 ⟨⟨r1, rfl⟩, hE1, hg1⟩
  have hT1 := hT.turned hg1 hlt
  have hab1 := below_turned hab hg1 hsz0 (Nat.le_refl _)
  have hZ1 := hR2.turned hg1 (by omega)
  have hsz1 := Nat.le_trans hsz0 hg1.size
  clear hg1
  go_wp2_with fail
  (with_reducible refine (signed_any w.heap.size (e.up2) _ hE1).mono ?_)
  rintro x w2 ⟨⟨r2, rfl⟩, hE2, hg2⟩
  have hT2 := hT1.turned hg2 hlt
  have hab2 := below_turned hab1 hg2 hsz1 (Nat.le_refl _)
  have hZ2 := hZ1.turned hg2 (by omega)
  have hsz2 := Nat.le_trans hsz1 hg2.size
  clear hg2
  go_wp2_with fail
  (with_reducible refine (clears_any w.heap.size (e.up2.up3) _ hE2).mono ?_)
  rintro x w3 ⟨⟨r3, rfl⟩, hE3, hg3⟩
  have hT3 := hT2.turned hg3 hlt
  have hab3 := below_turned hab2 hg3 hsz2 (Nat.le_refl _)
  have hZ3 := hZ2.turned hg3 (by omega)
  have hsz3 := Nat.le_trans hsz2 hg3.size
  clear hg3
  go_wp2_with (first
    | (with_reducible refine wpList_load_row rfl 25 (.tmp 3) rfl w.heap.size rfl _ (e.up2.up3.up4).cells (0, 0) _ hE3.eq Tryd.underlying25 rfl (by with_unfolding_all exact info_ev) ?_)
    | (with_reducible refine wpList_store_row rfl 25 (.tmp 4) (.tmp 18) rfl (w.heap.size + 1) (e.up2.up3.up4).cells rfl rfl _ _ hZ3.eq (by with_unfolding_all exact info_ev) (by with_unfolding_all exact rfl) (by with_unfolding_all exact rfl) ?_))
  have hgr := setRow_heap _ (w.heap.size + 1) _ (e.up2.up3.up4).cells _ _ hZ3.eq
  exact bodyPost_ret (v := (e.up2.up3.up4).val) (ret_ev rfl rfl hgr rfl) rfl ⟨rfl, below_row hab3 (Nat.le_succ _) _⟩

set_option maxHeartbeats 1600000 in
theorem rise3 (e : Ev) (w : World) (ht : Tab w) (hR : Right 3 e) : Calls Tryd.prog 13 #[.int .i64 3, e.val] w fun x w' => x = .returned (e.up3.up4).val ∧ Below w.heap.size w w' := by
  have hlt := ht.lt
  have hq1 : -10000 ≤ e.qty := hR.q.1
  have hq2 : e.qty ≤ 10000 := hR.q.2
  have hc1 : 0 ≤ e.cur := hR.c.1
  have hc2 : e.cur ≤ 3 := hR.c.2
  obtain ⟨hE, hR2, hab, hsz⟩ := two_new w e zeroEv
  have hT := ht.below hab
  have hsz0 : w.heap.size ≤ ((w.alloc (.cells e.cells 25)).alloc (.cells zeroEv.cells 25)).heap.size := by omega
  clear hsz ht
  have HW := Lib.hid (⟨_, rfl⟩ : ∃ wm, (w.alloc (.cells e.cells 25)).alloc (.cells zeroEv.cells 25) = wm)
  unfold Ev.val
  go_enter Tryd.func13, Tryd.ntmps13
  go_upto_region 1 with (fail)
  rw [show (#[.int .i64 0, .int .i64 0, .int .i64 0, .int .i64 0, .int .i64 0, .int .i64 0, .int .i64 0, .string ⟨#[]⟩, .int .i64 0, .string ⟨#[]⟩] : Array Value) = zeroEv.cells from rfl]
  obtain ⟨wm, hwm⟩ := HW.out
  rw [hwm] at hE hR2 hab hT hsz0 ⊢
  clear hwm HW
  go_wp2_with fail
  (with_reducible refine (signed_any w.heap.size e _ hE).mono ?_)
  rintro x w1 ⟨⟨r1, rfl⟩, hE1, hg1⟩
  have hT1 := hT.turned hg1 hlt
  have hab1 := below_turned hab hg1 hsz0 (Nat.le_refl _)
  have hZ1 := hR2.turned hg1 (by omega)
  have hsz1 := Nat.le_trans hsz0 hg1.size
  clear hg1
  go_wp2_with fail
  (with_reducible refine (clears_any w.heap.size (e.up3) _ hE1).mono ?_)
  rintro x w2 ⟨⟨r2, rfl⟩, hE2, hg2⟩
  have hT2 := hT1.turned hg2 hlt
  have hab2 := below_turned hab1 hg2 hsz1 (Nat.le_refl _)
  have hZ2 := hZ1.turned hg2 (by omega)
  have hsz2 := Nat.le_trans hsz1 hg2.size
  clear hg2
  go_wp2_with (first
    | (with_reducible refine wpList_load_row rfl 25 (.tmp 3) rfl w.heap.size rfl _ (e.up3.up4).cells (0, 0) _ hE2.eq Tryd.underlying25 rfl (by with_unfolding_all exact info_ev) ?_)
    | (with_reducible refine wpList_store_row rfl 25 (.tmp 4) (.tmp 18) rfl (w.heap.size + 1) (e.up3.up4).cells rfl rfl _ _ hZ2.eq (by with_unfolding_all exact info_ev) (by with_unfolding_all exact rfl) (by with_unfolding_all exact rfl) ?_))
  have hgr := setRow_heap _ (w.heap.size + 1) _ (e.up3.up4).cells _ _ hZ2.eq
  exact bodyPost_ret (v := (e.up3.up4).val) (ret_ev rfl rfl hgr rfl) rfl ⟨rfl, below_row hab2 (Nat.le_succ _) _⟩

set_option maxHeartbeats 1600000 in
theorem rise4 (e : Ev) (w : World) (ht : Tab w) (hR : Right 4 e) : Calls Tryd.prog 13 #[.int .i64 4, e.val] w fun x w' => x = .returned (e.up4).val ∧ Below w.heap.size w w' := by
  have hlt := ht.lt
  have hq1 : -10000 ≤ e.qty := hR.q.1
  have hq2 : e.qty ≤ 10000 := hR.q.2
  have hc1 : 0 ≤ e.cur := hR.c.1
  have hc2 : e.cur ≤ 3 := hR.c.2
  obtain ⟨hE, hR2, hab, hsz⟩ := two_new w e zeroEv
  have hT := ht.below hab
  have hsz0 : w.heap.size ≤ ((w.alloc (.cells e.cells 25)).alloc (.cells zeroEv.cells 25)).heap.size := by omega
  clear hsz ht
  have HW := Lib.hid (⟨_, rfl⟩ : ∃ wm, (w.alloc (.cells e.cells 25)).alloc (.cells zeroEv.cells 25) = wm)
  unfold Ev.val
  go_enter Tryd.func13, Tryd.ntmps13
  go_upto_region 1 with (fail)
  rw [show (#[.int .i64 0, .int .i64 0, .int .i64 0, .int .i64 0, .int .i64 0, .int .i64 0, .int .i64 0, .string ⟨#[]⟩, .int .i64 0, .string ⟨#[]⟩] : Array Value) = zeroEv.cells from rfl]
  obtain ⟨wm, hwm⟩ := HW.out
  rw [hwm] at hE hR2 hab hT hsz0 ⊢
  clear hwm HW
  go_wp2_with fail
  (with_reducible refine (clears_any w.heap.size e _ hE).mono ?_)
  rintro x w1 ⟨⟨r1, rfl⟩, hE1, hg1⟩
  have hT1 := hT.turned hg1 hlt
  have hab1 := below_turned hab hg1 hsz0 (Nat.le_refl _)
  have hZ1 := hR2.turned hg1 (by omega)
  have hsz1 := Nat.le_trans hsz0 hg1.size
  clear hg1
  go_wp2_with (first
    | (with_reducible refine wpList_load_row rfl 25 (.tmp 3) rfl w.heap.size rfl _ (e.up4).cells (0, 0) _ hE1.eq Tryd.underlying25 rfl (by with_unfolding_all exact info_ev) ?_)
    | (with_reducible refine wpList_store_row rfl 25 (.tmp 4) (.tmp 18) rfl (w.heap.size + 1) (e.up4).cells rfl rfl _ _ hZ1.eq (by with_unfolding_all exact info_ev) (by with_unfolding_all exact rfl) (by with_unfolding_all exact rfl) ?_))
  have hgr := setRow_heap _ (w.heap.size + 1) _ (e.up4).cells _ _ hZ1.eq
  exact bodyPost_ret (v := (e.up4).val) (ret_ev rfl rfl hgr rfl) rfl ⟨rfl, below_row hab1 (Nat.le_succ _) _⟩

set_option maxHeartbeats 1600000 in
theorem rise5 (e : Ev) (w : World) (ht : Tab w) (hR : Right 5 e) : Calls Tryd.prog 13 #[.int .i64 5, e.val] w fun x w' => x = .returned e.val ∧ Below w.heap.size w w' := by
  have hlt := ht.lt
  have hq1 : -10000 ≤ e.qty := hR.q.1
  have hq2 : e.qty ≤ 10000 := hR.q.2
  have hc1 : 0 ≤ e.cur := hR.c.1
  have hc2 : e.cur ≤ 3 := hR.c.2
  obtain ⟨hE, hR2, hab, hsz⟩ := two_new w e zeroEv
  have hT := ht.below hab
  have hsz0 : w.heap.size ≤ ((w.alloc (.cells e.cells 25)).alloc (.cells zeroEv.cells 25)).heap.size := by omega
  clear hsz ht
  have HW := Lib.hid (⟨_, rfl⟩ : ∃ wm, (w.alloc (.cells e.cells 25)).alloc (.cells zeroEv.cells 25) = wm)
  unfold Ev.val
  go_enter Tryd.func13, Tryd.ntmps13
  go_upto_region 1 with (fail)
  rw [show (#[.int .i64 0, .int .i64 0, .int .i64 0, .int .i64 0, .int .i64 0, .int .i64 0, .int .i64 0, .string ⟨#[]⟩, .int .i64 0, .string ⟨#[]⟩] : Array Value) = zeroEv.cells from rfl]
  obtain ⟨wm, hwm⟩ := HW.out
  rw [hwm] at hE hR2 hab hT hsz0 ⊢
  clear hwm HW
  go_wp2_with (first
    | (with_reducible refine wpList_load_row rfl 25 (.tmp 3) rfl w.heap.size rfl _ e.cells (0, 0) _ hE.eq Tryd.underlying25 rfl (by with_unfolding_all exact info_ev) ?_)
    | (with_reducible refine wpList_store_row rfl 25 (.tmp 4) (.tmp 18) rfl (w.heap.size + 1) e.cells rfl rfl _ _ hR2.eq (by with_unfolding_all exact info_ev) (by with_unfolding_all exact rfl) (by with_unfolding_all exact rfl) ?_))
  have hgr := setRow_heap _ (w.heap.size + 1) _ e.cells _ _ hR2.eq
  exact bodyPost_ret (v := e.val) (ret_ev rfl rfl hgr rfl) rfl ⟨rfl, below_row hab (Nat.le_succ _) _⟩

end Go.Proofs.YtkdpingniohfhaaDoor
