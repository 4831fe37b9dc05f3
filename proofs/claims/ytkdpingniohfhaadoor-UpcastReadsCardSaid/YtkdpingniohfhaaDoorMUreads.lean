/-
  The walks of upcast.Read and of the reference's Read, printed by genuread.py. Condition: the program's table of taxes holds what its text lays; the argument reads as bytes.
-/
import Derived.Test.YtkdpingniohfhaaDoorMUread
namespace Go.Proofs.YtkdpingniohfhaaDoor
open Go.RowKit
set_option linter.unusedVariables false

set_option maxRecDepth 8000 in
set_option maxHeartbeats 3200000 in
theorem uread_any (a : Option Addr) (n c : Nat) (l : List UInt8) (w : World) (ht : Tab w) (r : RowAt w a n c 1 (l.map B)) :
    Calls Tryd.prog 5 #[.slice a n c] w (GivesDE w (readE l)) := by
  have hbm := below_made w (.cells zeroEv.cells 25)
  have hR := evB_new w zeroEv
  have hT0 := ht.below hbm
  have r0 := r.below hbm
  have HW := Lib.hid (⟨_, rfl⟩ : ∃ w0, w.alloc (.cells zeroEv.cells 25) = w0)
  have hun := fun wx hx => unp_any a n c l wx hx
  unfold GivesU at hun
  have hrt := @unp_right l
  unfold readE
  obtain ⟨z, hz⟩ : ∃ z, unpF l = z := ⟨_, rfl⟩
  rw [hz] at hun hrt ⊢
  obtain ⟨v, e, rz⟩ := z
  simp only at hun hrt ⊢
  unfold Ev.val Ev.cells at hun
  have HUN := Lib.hid hun
  clear hun hz
  by_cases h0 : rz = 0
  · subst h0
    have hc0 := hrt rfl
    rw [if_neg (by simp)]
    unfold GivesDE
    have hri := fun (wx : World) (htx : Tab wx) => rise_all v e hc0 wx htx
    unfold Ev.val at hri
    have HRI := Lib.hid hri
    clear hri hrt hc0
    go_enter Tryd.func5, Tryd.ntmps5
    go_upto_region 1 with (fail)
    rw [show (#[.int .i64 0, .int .i64 0, .int .i64 0, .int .i64 0, .int .i64 0, .int .i64 0, .int .i64 0, .string ⟨#[]⟩, .int .i64 0, .string ⟨#[]⟩] : Array Value) = zeroEv.cells from rfl]
    obtain ⟨w0, hw0⟩ := HW.out
    rw [hw0] at hbm hR hT0 r0 ⊢
    clear hw0 HW r ht
    go_wp2_with fail
    (with_reducible refine (HUN.out _ r0).mono ?_)
    rintro x w1 ⟨rfl, hb1⟩
    have hR1 := hR.below hb1
    have hT1 := hT0.below hb1
    have hB1 := below_next hbm hb1
    clear hR hT0 r0 hbm hb1 HUN
    go_upto_region 2 with (fail)
    have hm := below_made w1 (.cells e.cells 25)
    have hE := evB_new w1 e
    have hR2 := hR1.below hm
    have hT2 := hT1.below hm
    have hB2 := below_next hB1 hm
    rw [show (#[.int .i64 e.kind, .int .i64 e.order, .int .i64 e.item, .int .i64 e.qty, .int .i64 e.price, .int .i64 e.cur, .int .i64 e.tax, .string e.who, .int .i64 e.stamp, .string e.note] : Array Value) = e.cells from rfl]
    obtain ⟨w2, hw2⟩ : ∃ w2, w1.alloc (.cells e.cells 25) = w2 := ⟨_, rfl⟩
    rw [hw2] at hE hR2 hT2 hB2 ⊢
    clear hw2 hm hR1 hT1 hB1
    go_wp2_with (with_reducible refine wpList_load_row rfl 25 (.tmp 5) rfl w1.heap.size rfl _ e.cells (0, 0) _ hE.eq Tryd.underlying25 rfl (by with_unfolding_all exact info_ev) ?_)
    (with_reducible refine (HRI.out _ hT2).mono ?_)
    rintro x w3 ⟨rfl, hb3⟩
    have hR3 := hR2.below hb3
    have hB3 := below_next hB2 hb3
    clear hR2 hB2 hT2 hE hb3 HRI
    go_wp2_with (with_reducible refine wpList_store_row rfl 25 (.tmp 2) (.tmp 19) rfl w.heap.size (Ev.steps (5 - v).toNat v e).cells rfl rfl _ _ hR3.eq (by with_unfolding_all exact info_ev) (by with_unfolding_all exact rfl) (by with_unfolding_all exact rfl) ?_)
    exact bodyPost_ret (v := pairV (Ev.steps (5 - v).toNat v e) 0) (ret_ev2 rfl rfl (setRow_heap _ w.heap.size _ (Ev.steps (5 - v).toNat v e).cells _ _ hR3.eq) rfl rfl) rfl ⟨rfl, below_row hB3 (Nat.le_refl _) _⟩
  · have hrb : (rz != 0) = true := by rw [bne_iff_ne]; exact h0
    rw [if_pos h0]
    clear h0 hrt
    unfold GivesDE
    go_enter Tryd.func5, Tryd.ntmps5
    go_upto_region 1 with (fail)
    rw [show (#[.int .i64 0, .int .i64 0, .int .i64 0, .int .i64 0, .int .i64 0, .int .i64 0, .int .i64 0, .string ⟨#[]⟩, .int .i64 0, .string ⟨#[]⟩] : Array Value) = zeroEv.cells from rfl]
    obtain ⟨w0, hw0⟩ := HW.out
    rw [hw0] at hbm hR hT0 r0 ⊢
    clear hw0 HW r ht
    go_wp2_with fail
    (with_reducible refine (HUN.out _ r0).mono ?_)
    rintro x w1 ⟨rfl, hb1⟩
    have hR1 := hR.below hb1
    have hB1 := below_next hbm hb1
    clear hR hT0 r0 hbm hb1 HUN
    go_upto_region 2 with (fail)
    have hm := below_made w1 (.cells e.cells 25)
    have hR2 := hR1.below hm
    have hB2 := below_next hB1 hm
    rw [show (#[.int .i64 e.kind, .int .i64 e.order, .int .i64 e.item, .int .i64 e.qty, .int .i64 e.price, .int .i64 e.cur, .int .i64 e.tax, .string e.who, .int .i64 e.stamp, .string e.note] : Array Value) = e.cells from rfl]
    obtain ⟨w2, hw2⟩ : ∃ w2, w1.alloc (.cells e.cells 25) = w2 := ⟨_, rfl⟩
    rw [hw2] at hR2 hB2 ⊢
    clear hw2 hm hR1 hB1
    go_wp2_with (with_reducible refine wpList_store_row rfl 25 (.tmp 2) (.tmp 15) rfl w.heap.size zeroEv.cells rfl rfl _ _ hR2.eq (by with_unfolding_all exact info_ev) (by with_unfolding_all exact rfl) (by with_unfolding_all exact rfl) ?_)
    exact bodyPost_ret (v := pairV zeroEv rz) (ret_ev2 rfl rfl (setRow_heap _ w.heap.size _ zeroEv.cells _ _ hR2.eq) rfl rfl) rfl ⟨rfl, below_row hB2 (Nat.le_refl _) _⟩

set_option maxRecDepth 8000 in
set_option maxHeartbeats 3200000 in
theorem ruread_any (a : Option Addr) (n c : Nat) (l : List UInt8) (w : World) (ht : Tab w) (r : RowAt w a n c 1 (l.map B)) :
    Calls Tryd.prog 7 #[.slice a n c] w (GivesDE w (readE l)) := by
  have hbm := below_made w (.cells zeroEv.cells 25)
  have hR := evB_new w zeroEv
  have hT0 := ht.below hbm
  have r0 := r.below hbm
  have HW := Lib.hid (⟨_, rfl⟩ : ∃ w0, w.alloc (.cells zeroEv.cells 25) = w0)
  have hun := fun wx hx => runp_any a n c l wx hx
  unfold GivesU at hun
  have hrt := @unp_right l
  unfold readE
  obtain ⟨z, hz⟩ : ∃ z, unpF l = z := ⟨_, rfl⟩
  rw [hz] at hun hrt ⊢
  obtain ⟨v, e, rz⟩ := z
  simp only at hun hrt ⊢
  unfold Ev.val Ev.cells at hun
  have HUN := Lib.hid hun
  clear hun hz
  by_cases h0 : rz = 0
  · subst h0
    have hc0 := hrt rfl
    rw [if_neg (by simp)]
    unfold GivesDE
    have hri := fun (wx : World) => rto_any v 5 e wx
    rw [(to_five hc0).1, (to_five hc0).2] at hri
    unfold pairV Ev.val at hri
    have HRI := Lib.hid hri
    clear hri hrt hc0
    go_enter Tryd.func7, Tryd.ntmps7
    go_upto_region 1 with (fail)
    rw [show (#[.int .i64 0, .int .i64 0, .int .i64 0, .int .i64 0, .int .i64 0, .int .i64 0, .int .i64 0, .string ⟨#[]⟩, .int .i64 0, .string ⟨#[]⟩] : Array Value) = zeroEv.cells from rfl]
    obtain ⟨w0, hw0⟩ := HW.out
    rw [hw0] at hbm hR hT0 r0 ⊢
    clear hw0 HW r ht
    go_wp2_with fail
    (with_reducible refine (HUN.out _ r0).mono ?_)
    rintro x w1 ⟨rfl, hb1⟩
    have hR1 := hR.below hb1
    have hT1 := hT0.below hb1
    have hB1 := below_next hbm hb1
    clear hR hT0 r0 hbm hb1 HUN
    go_upto_region 2 with (fail)
    have hm := below_made w1 (.cells e.cells 25)
    have hE := evB_new w1 e
    have hR2 := hR1.below hm
    have hT2 := hT1.below hm
    have hB2 := below_next hB1 hm
    rw [show (#[.int .i64 e.kind, .int .i64 e.order, .int .i64 e.item, .int .i64 e.qty, .int .i64 e.price, .int .i64 e.cur, .int .i64 e.tax, .string e.who, .int .i64 e.stamp, .string e.note] : Array Value) = e.cells from rfl]
    obtain ⟨w2, hw2⟩ : ∃ w2, w1.alloc (.cells e.cells 25) = w2 := ⟨_, rfl⟩
    rw [hw2] at hE hR2 hT2 hB2 ⊢
    clear hw2 hm hR1 hT1 hB1
    go_wp2_with (with_reducible refine wpList_load_row rfl 25 (.tmp 5) rfl w1.heap.size rfl _ e.cells (0, 0) _ hE.eq Tryd.underlying25 rfl (by with_unfolding_all exact info_ev) ?_)
    (with_reducible refine (HRI.out _).mono ?_)
    rintro x w3 ⟨rfl, hb3⟩
    have hR3 := hR2.below hb3
    have hB3 := below_next hB2 hb3
    clear hR2 hB2 hT2 hE hb3 HRI
    go_wp2_with (with_reducible refine wpList_store_row rfl 25 (.tmp 2) (.tmp 20) rfl w.heap.size (Ev.steps (5 - v).toNat v e).cells rfl rfl _ _ hR3.eq (by with_unfolding_all exact info_ev) (by with_unfolding_all exact rfl) (by with_unfolding_all exact rfl) ?_)
    exact bodyPost_ret (v := pairV (Ev.steps (5 - v).toNat v e) 0) (ret_ev2 rfl rfl (setRow_heap _ w.heap.size _ (Ev.steps (5 - v).toNat v e).cells _ _ hR3.eq) rfl rfl) rfl ⟨rfl, below_row hB3 (Nat.le_refl _) _⟩
  · have hrb : (rz != 0) = true := by rw [bne_iff_ne]; exact h0
    rw [if_pos h0]
    clear h0 hrt
    unfold GivesDE
    go_enter Tryd.func7, Tryd.ntmps7
    go_upto_region 1 with (fail)
    rw [show (#[.int .i64 0, .int .i64 0, .int .i64 0, .int .i64 0, .int .i64 0, .int .i64 0, .int .i64 0, .string ⟨#[]⟩, .int .i64 0, .string ⟨#[]⟩] : Array Value) = zeroEv.cells from rfl]
    obtain ⟨w0, hw0⟩ := HW.out
    rw [hw0] at hbm hR hT0 r0 ⊢
    clear hw0 HW r ht
    go_wp2_with fail
    (with_reducible refine (HUN.out _ r0).mono ?_)
    rintro x w1 ⟨rfl, hb1⟩
    have hR1 := hR.below hb1
    have hB1 := below_next hbm hb1
    clear hR hT0 r0 hbm hb1 HUN
    go_upto_region 2 with (fail)
    have hm := below_made w1 (.cells e.cells 25)
    have hR2 := hR1.below hm
    have hB2 := below_next hB1 hm
    rw [show (#[.int .i64 e.kind, .int .i64 e.order, .int .i64 e.item, .int .i64 e.qty, .int .i64 e.price, .int .i64 e.cur, .int .i64 e.tax, .string e.who, .int .i64 e.stamp, .string e.note] : Array Value) = e.cells from rfl]
    obtain ⟨w2, hw2⟩ : ∃ w2, w1.alloc (.cells e.cells 25) = w2 := ⟨_, rfl⟩
    rw [hw2] at hR2 hB2 ⊢
    clear hw2 hm hR1 hB1
    go_wp2_with (with_reducible refine wpList_store_row rfl 25 (.tmp 2) (.tmp 15) rfl w.heap.size zeroEv.cells rfl rfl _ _ hR2.eq (by with_unfolding_all exact info_ev) (by with_unfolding_all exact rfl) (by with_unfolding_all exact rfl) ?_)
    exact bodyPost_ret (v := pairV zeroEv rz) (ret_ev2 rfl rfl (setRow_heap _ w.heap.size _ zeroEv.cells _ _ hR2.eq) rfl rfl) rfl ⟨rfl, below_row hB2 (Nat.le_refl _) _⟩

end Go.Proofs.YtkdpingniohfhaaDoor
