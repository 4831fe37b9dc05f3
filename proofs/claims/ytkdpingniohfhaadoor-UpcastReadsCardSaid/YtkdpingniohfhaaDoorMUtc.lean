/-
  The walks of the reference's To and of Chain, printed by gento.py (cut apart). Condition: the program's table of taxes holds what its text lays.
-/
import Derived.Test.YtkdpingniohfhaaDoorMUpr
import Derived.Test.YtkdpingniohfhaaDoorMUrstep
namespace Go.Proofs.YtkdpingniohfhaaDoor
open Go.RowKit
set_option linter.unusedVariables false

theorem rto_big (f t : Int) (e : Ev) (w : World) (h : f < 1 ∨ (¬ f < 1 ∧ 5 < f) ∨ (¬ f < 1 ∧ ¬ 5 < f ∧ t < f) ∨ (¬ f < 1 ∧ ¬ 5 < f ∧ ¬ t < f ∧ 5 < t)) : Calls Tryd.prog 15 #[.int .i64 f, .int .i64 t, e.val] w fun x w' => x = .returned (pairV zeroEv 30) ∧ Below w.heap.size w w' := by
  obtain ⟨hE, hR, hab, hsz⟩ := two_new w e zeroEv
  unfold Ev.val
  rcases h with h | ⟨h, h2⟩ | ⟨h, h2, h3⟩ | ⟨h, h2, h3, h4⟩
  all_goals
    go_enter Tryd.func15, Tryd.ntmps15
    go_wp2_with fail
    exact bodyPost_ret (v := pairV zeroEv 30) (ret_ev2 rfl rfl hR.eq rfl rfl) rfl ⟨rfl, hab⟩

theorem rto_chk (f t : Int) (e : Ev) (r : Int) (w : World) (h1 : f ≤ t) (h5 : t ≤ 5) (hf1 : 1 ≤ f) (hr : chk f e = r) (hr0 : r ≠ 0) : Calls Tryd.prog 15 #[.int .i64 f, .int .i64 t, e.val] w fun x w' => x = .returned (pairV zeroEv r) ∧ Below w.heap.size w w' := by
  have a1 : ¬ t < f := by omega
  have a2 : ¬ 5 < t := by omega
  have a3 : ¬ f < 1 := by omega
  have a4 : ¬ 5 < f := by omega
  have hrb : (r != 0) = true := by simpa using hr0
  have hck := fun wx => rchk_any f e wx
  unfold GivesC at hck
  rw [hr] at hck
  unfold Ev.val at hck
  have HCK := Lib.hid hck
  clear hck hr
  obtain ⟨hE, hR, hab, hsz⟩ := two_new w e zeroEv
  have HW := Lib.hid (⟨_, rfl⟩ : ∃ wm, (w.alloc (.cells e.cells 25)).alloc (.cells zeroEv.cells 25) = wm)
  unfold Ev.val
  go_enter Tryd.func15, Tryd.ntmps15
  go_upto_region 3 with (fail)
  rw [show (#[.int .i64 0, .int .i64 0, .int .i64 0, .int .i64 0, .int .i64 0, .int .i64 0, .int .i64 0, .string ⟨#[]⟩, .int .i64 0, .string ⟨#[]⟩] : Array Value) = zeroEv.cells from rfl]
  obtain ⟨wm, hwm⟩ := HW.out
  rw [hwm] at hE hR hab hsz ⊢
  clear hwm HW
  go_wp2_with (with_reducible refine wpList_load_row rfl 25 (.tmp 5) rfl w.heap.size rfl _ e.cells (0, 0) _ hE.eq Tryd.underlying25 rfl (by with_unfolding_all exact info_ev) ?_)
  (with_reducible refine (HCK.out _).mono ?_)
  rintro x w1 ⟨rfl, hb1⟩
  have hE1 := hE.below hb1
  have hR1 := hR.below hb1
  have hab1 := below_next hab hb1
  have hs1 := hb1.size
  clear hE hR hab hb1
  go_wp2_with (with_reducible refine wpList_store_row rfl 25 (.tmp 6) (.tmp 31) rfl (w.heap.size + 1) zeroEv.cells rfl rfl _ _ hR1.eq (by with_unfolding_all exact info_ev) (by with_unfolding_all exact rfl) (by with_unfolding_all exact rfl) ?_)
  exact bodyPost_ret (v := pairV zeroEv r) (ret_ev2 rfl rfl (setRow_heap _ (w.heap.size + 1) _ zeroEv.cells _ _ hR1.eq) rfl rfl) rfl ⟨rfl, below_row hab1 (Nat.le_succ _) _⟩

set_option maxHeartbeats 1600000 in
theorem rto_ok (f t : Int) (e : Ev) (w : World) (hr : chk f e = 0) (h1 : f ≤ t) (h5 : t ≤ 5) : Calls Tryd.prog 15 #[.int .i64 f, .int .i64 t, e.val] w fun x w' => x = .returned (pairV (Ev.steps (t - f).toNat f e) 0) ∧ Below w.heap.size w w' := by
  have hR0 := right_of hr
  have hf1 := hR0.v1
  have a1 : ¬ t < f := by omega
  have a2 : ¬ 5 < t := by omega
  have a3 : ¬ f < 1 := by omega
  have a4 : ¬ 5 < f := by omega
  have hck := fun wx => rchk_any f e wx
  unfold GivesC at hck
  rw [hr] at hck
  unfold Ev.val at hck
  have HCK := Lib.hid hck
  clear hck hr
  obtain ⟨hE, hR, hab, hsz⟩ := two_new w e zeroEv
  have HW := Lib.hid (⟨_, rfl⟩ : ∃ wm, (w.alloc (.cells e.cells 25)).alloc (.cells zeroEv.cells 25) = wm)
  unfold Ev.val
  go_enter Tryd.func15, Tryd.ntmps15
  go_upto_region 3 with (fail)
  rw [show (#[.int .i64 0, .int .i64 0, .int .i64 0, .int .i64 0, .int .i64 0, .int .i64 0, .int .i64 0, .string ⟨#[]⟩, .int .i64 0, .string ⟨#[]⟩] : Array Value) = zeroEv.cells from rfl]
  obtain ⟨wm, hwm⟩ := HW.out
  rw [hwm] at hE hR hab hsz ⊢
  clear hwm HW
  go_wp2_with (with_reducible refine wpList_load_row rfl 25 (.tmp 5) rfl w.heap.size rfl _ e.cells (0, 0) _ hE.eq Tryd.underlying25 rfl (by with_unfolding_all exact info_ev) ?_)
  (with_reducible refine (HCK.out _).mono ?_)
  rintro x w1 ⟨rfl, hb1⟩
  have hE1 := hE.below hb1
  have hR1 := hR.below hb1
  have hab1 := below_next hab hb1
  have hs1 := hb1.size
  clear hE hR hab hb1
  have HR0 := Lib.hid hR0
  clear hR0
  go_wp2_with fail
  go_loopw [9] (fun iv wr => ∃ k : Nat, iv = .int .i64 (f + k) ∧ f + k ≤ t ∧ EvB wr w.heap.size (Ev.steps k f e) ∧ EvB wr (w.heap.size + 1) zeroEv ∧ Below w.heap.size w wr) (fun iv _ => (t - intOf iv).toNat)
  case atStart => exact ⟨0, by simp, by omega, hE1, hR1, hab1⟩
  case round =>
    clear hE1 hR1 hab1
    obtain ⟨k, rfl, hk, hEk, hZk, habk⟩ := hrel
    by_cases hlt2 : f + (k : Int) < t
    · have HST : Hid (∀ (wx : World), Calls Tryd.prog 30 #[.int .i64 (f + k), .agg (Ev.steps k f e).cells] wx fun x w' => x = .returned (.agg (Ev.steps (k + 1) f e).cells) ∧ Below wx.heap.size wx w') := Lib.hid (by
        have hRk := right_steps k HR0.out (by omega)
        have hst := fun (wx : World) => rstep_any (f + k) (Ev.steps k f e) wx hRk (by omega)
        rw [← steps_succ] at hst
        unfold Ev.val at hst
        exact hst)
      go_wp2_with (with_reducible refine wpList_load_row rfl 25 (.tmp 5) rfl w.heap.size rfl _ (Ev.steps k f e).cells (0, 0) _ hEk.eq Tryd.underlying25 rfl (by with_unfolding_all exact info_ev) ?_)
      (with_reducible refine (HST.out _).mono ?_)
      rintro x w2 ⟨rfl, hb2⟩
      have hE2 := hEk.below hb2
      have hZ2 := hZk.below hb2
      have hab2 := below_next habk hb2
      clear hEk hZk habk hb2 HST
      go_wp2_with (with_reducible refine wpList_store_row rfl 25 (.tmp 5) (.tmp 41) rfl w.heap.size (Ev.steps (k + 1) f e).cells rfl rfl _ _ hE2.eq (by with_unfolding_all exact info_ev) (by with_unfolding_all exact rfl) (by with_unfolding_all exact rfl) ?_)
      go_roundw
      case rel => exact ⟨k + 1, by go_num, by omega, hE2.row _, hZ2.rowOther (by omega), below_row hab2 (Nat.le_refl _) _⟩
      case measure => simp [intOf]; omega
    · have hkk : (t - f).toNat = k := by omega
      have hEQ := Lib.hid hkk
      clear HR0 hkk
      go_wp2_with (first
        | (with_reducible refine wpList_load_row rfl 25 (.tmp 5) rfl w.heap.size rfl _ (Ev.steps k f e).cells (0, 0) _ hEk.eq Tryd.underlying25 rfl (by with_unfolding_all exact info_ev) ?_)
        | (with_reducible refine wpList_store_row rfl 25 (.tmp 6) (.tmp 42) rfl (w.heap.size + 1) (Ev.steps k f e).cells rfl rfl _ _ hZk.eq (by with_unfolding_all exact info_ev) (by with_unfolding_all exact rfl) (by with_unfolding_all exact rfl) ?_))
      rw [hEQ.out]
      exact bodyPost_ret (v := pairV (Ev.steps k f e) 0) (ret_ev2 rfl rfl (setRow_heap _ (w.heap.size + 1) _ (Ev.steps k f e).cells _ _ hZk.eq) rfl rfl) rfl ⟨rfl, below_row habk (Nat.le_succ _) _⟩

theorem rto_any (f t : Int) (e : Ev) (w : World) : Calls Tryd.prog 15 #[.int .i64 f, .int .i64 t, e.val] w fun x w' => x = .returned (pairV (toE f t e) (toR f t e)) ∧ Below w.heap.size w w' := by
  by_cases hf : f < 1 ∨ 5 < f
  · obtain ⟨h1, h2⟩ := to_none (t := t) (e := e) hf
    rw [h1, h2]; exact rto_big f t e w (by omega)
  by_cases h : t < f ∨ 5 < t
  · obtain ⟨h1, h2⟩ := to_bad (e := e) h
    rw [h1, h2]; exact rto_big f t e w (by omega)
  · by_cases h0 : chk f e = 0
    · obtain ⟨h1, h2⟩ := to_ok h h0
      rw [h1, h2]; exact rto_ok f t e w h0 (by omega) (by omega)
    · obtain ⟨h1, h2⟩ := to_chk h h0
      rw [h1, h2]; exact rto_chk f t e _ w (by omega) (by omega) (by omega) rfl h0

theorem chain_bad (v : Int) (e : Ev) (r : Int) (w : World) (hr : chk v e = r) (hr0 : r ≠ 0) : Calls Tryd.prog 11 #[.int .i64 v, e.val] w fun x w' => x = .returned (pairV zeroEv r) ∧ Below w.heap.size w w' := by
  have hrb : (r != 0) = true := by simpa using hr0
  have hck := fun wx => chk_any v e wx
  unfold GivesC at hck
  rw [hr] at hck
  unfold Ev.val at hck
  have HCK := Lib.hid hck
  clear hck hr
  obtain ⟨hE, hR, hab, hsz⟩ := two_new w e zeroEv
  have HW := Lib.hid (⟨_, rfl⟩ : ∃ wm, (w.alloc (.cells e.cells 25)).alloc (.cells zeroEv.cells 25) = wm)
  unfold Ev.val
  go_enter Tryd.func11, Tryd.ntmps11
  go_upto_region 1 with (fail)
  rw [show (#[.int .i64 0, .int .i64 0, .int .i64 0, .int .i64 0, .int .i64 0, .int .i64 0, .int .i64 0, .string ⟨#[]⟩, .int .i64 0, .string ⟨#[]⟩] : Array Value) = zeroEv.cells from rfl]
  obtain ⟨wm, hwm⟩ := HW.out
  rw [hwm] at hE hR hab hsz ⊢
  clear hwm HW
  go_wp2_with (with_reducible refine wpList_load_row rfl 25 (.tmp 3) rfl w.heap.size rfl _ e.cells (0, 0) _ hE.eq Tryd.underlying25 rfl (by with_unfolding_all exact info_ev) ?_)
  (with_reducible refine (HCK.out _).mono ?_)
  rintro x w1 ⟨rfl, hb1⟩
  have hE1 := hE.below hb1
  have hR1 := hR.below hb1
  have hab1 := below_next hab hb1
  have hs1 := hb1.size
  clear hE hR hab hb1
  go_wp2_with (with_reducible refine wpList_store_row rfl 25 (.tmp 4) (.tmp 12) rfl (w.heap.size + 1) zeroEv.cells rfl rfl _ _ hR1.eq (by with_unfolding_all exact info_ev) (by with_unfolding_all exact rfl) (by with_unfolding_all exact rfl) ?_)
  exact bodyPost_ret (v := pairV zeroEv r) (ret_ev2 rfl rfl (setRow_heap _ (w.heap.size + 1) _ zeroEv.cells _ _ hR1.eq) rfl rfl) rfl ⟨rfl, below_row hab1 (Nat.le_succ _) _⟩

theorem chain_ok (v : Int) (e : Ev) (w : World) (ht : Tab w) (hr : chk v e = 0) : Calls Tryd.prog 11 #[.int .i64 v, e.val] w fun x w' => x = .returned (pairV (Ev.steps (5 - v).toNat v e) 0) ∧ Below w.heap.size w w' := by
  have hR0 := right_of hr
  have hri : ∀ wx, Tab wx → Calls Tryd.prog 13 #[.int .i64 v, e.val] wx fun x w' => x = .returned (Ev.steps (5 - v).toNat v e).val ∧ Below wx.heap.size wx w' := fun wx htx => by
    have hc : v = 1 ∨ v = 2 ∨ v = 3 ∨ v = 4 ∨ v = 5 := by have := hR0.v1; have := hR0.v5; omega
    clear hr
    rcases hc with rfl | rfl | rfl | rfl | rfl
    · exact rise1 e wx htx hR0
    · exact rise2 e wx htx hR0
    · exact rise3 e wx htx hR0
    · exact rise4 e wx htx hR0
    · exact rise5 e wx htx hR0
  unfold Ev.val at hri
  have HRI := Lib.hid hri
  clear hri hR0
  have hck := fun wx => chk_any v e wx
  unfold GivesC at hck
  rw [hr] at hck
  unfold Ev.val at hck
  have HCK := Lib.hid hck
  clear hck hr
  obtain ⟨hE, hR, hab, hsz⟩ := two_new w e zeroEv
  have hTm := ht.below hab
  have HW := Lib.hid (⟨_, rfl⟩ : ∃ wm, (w.alloc (.cells e.cells 25)).alloc (.cells zeroEv.cells 25) = wm)
  unfold Ev.val
  go_enter Tryd.func11, Tryd.ntmps11
  go_upto_region 1 with (fail)
  rw [show (#[.int .i64 0, .int .i64 0, .int .i64 0, .int .i64 0, .int .i64 0, .int .i64 0, .int .i64 0, .string ⟨#[]⟩, .int .i64 0, .string ⟨#[]⟩] : Array Value) = zeroEv.cells from rfl]
  obtain ⟨wm, hwm⟩ := HW.out
  rw [hwm] at hE hR hab hsz hTm ⊢
  clear hwm HW
  go_wp2_with (with_reducible refine wpList_load_row rfl 25 (.tmp 3) rfl w.heap.size rfl _ e.cells (0, 0) _ hE.eq Tryd.underlying25 rfl (by with_unfolding_all exact info_ev) ?_)
  (with_reducible refine (HCK.out _).mono ?_)
  rintro x w1 ⟨rfl, hb1⟩
  have hE1 := hE.below hb1
  have hR1 := hR.below hb1
  have hab1 := below_next hab hb1
  have hT1 := hTm.below hb1
  have hs1 := hb1.size
  clear hE hR hab hb1
  go_wp2_with (with_reducible refine wpList_load_row rfl 25 (.tmp 3) rfl w.heap.size rfl _ e.cells (0, 0) _ hE1.eq Tryd.underlying25 rfl (by with_unfolding_all exact info_ev) ?_)
  (with_reducible refine (HRI.out _ hT1).mono ?_)
  rintro x w2 ⟨rfl, hb2⟩
  have hR2 := hR1.below hb2
  have hab2 := below_next hab1 hb2
  clear hR1 hab1 hb2
  go_wp2_with (with_reducible refine wpList_store_row rfl 25 (.tmp 4) (.tmp 16) rfl (w.heap.size + 1) (Ev.steps (5 - v).toNat v e).cells rfl rfl _ _ hR2.eq (by with_unfolding_all exact info_ev) (by with_unfolding_all exact rfl) (by with_unfolding_all exact rfl) ?_)
  exact bodyPost_ret (v := pairV (Ev.steps (5 - v).toNat v e) 0) (ret_ev2 rfl rfl (setRow_heap _ (w.heap.size + 1) _ (Ev.steps (5 - v).toNat v e).cells _ _ hR2.eq) rfl rfl) rfl ⟨rfl, below_row hab2 (Nat.le_succ _) _⟩

theorem chain_any (v : Int) (e : Ev) (w : World) (ht : Tab w) : Calls Tryd.prog 11 #[.int .i64 v, e.val] w fun x w' => x = .returned (pairV (toE v 5 e) (toR v 5 e)) ∧ Below w.heap.size w w' := by
  by_cases h0 : chk v e = 0
  · have hv5 := (right_of h0).v5
    obtain ⟨h1, h2⟩ := to_ok (t := 5) (by omega) h0
    rw [h1, h2]; exact chain_ok v e w ht h0
  · by_cases h : 5 < v
    · obtain ⟨h1, h2⟩ := to_none (t := 5) (e := e) (.inr h)
      rw [h1, h2]; exact chain_bad v e 30 w (chk_none (.inr h)) (by decide)
    · obtain ⟨h1, h2⟩ := to_chk (t := 5) (by omega) h0
      rw [h1, h2]; exact chain_bad v e _ w rfl h0
end Go.Proofs.YtkdpingniohfhaaDoor
