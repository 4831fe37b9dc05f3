/-
  The walk of Step, printed by genstep.py. Condition: the program's table of taxes holds what its text lays.
-/
import Derived.Test.YtfpmlmohmmccjaaDoorUchk
import Derived.Test.YtfpmlmohmmccjaaDoorUrise
import Derived.Laws.ResultCell
namespace Go.Proofs.YtfpmlmohmmccjaaDoor
open Go.RowKit
set_option linter.unusedVariables false

theorem ret_ev2 {fn : Func} {p u : Tmp} {cs : Array Value} {tmps : Array Value} {w : World} {g : Nat} {e : TypeId} (h : fn.results = #[.cell p 24, .tmp u]) (hp : tmps.getD p undef = .pointer (some ⟨g, 0, none⟩)) (hg : w.heap[g]? = some (.cells cs e (0, 0))) (hs : cs.size = 10) {v : Value} (hv : tmps.getD u undef = v) :
    (results fn tmps).run Tryd.prog w = .ok (.tuple #[.agg cs, v]) w := by
  subst hv
  rw [results_cell_tmp h, hp]
  have hl := run_loadVar_row (P := Tryd.prog) w g e 24 cs (0, 0) _ hg Tryd.underlying24 rfl (by rw [hs]; exact info_ev)
  simp [asAddr, hl]

/-- A pair of an event and a number. -/
def pairV (e : Ev) (r : Int) : Value := .tuple #[e.val, .int .i64 r]

theorem step_big (v : Int) (e : Ev) (w : World) (h : 5 ≤ v) : Calls Tryd.prog 8 #[.int .i64 v, e.val] w fun x w' => x = .returned (pairV zeroEv 30) ∧ Below w.heap.size w w' := by
  obtain ⟨hE, hR, hab, hsz⟩ := two_new w e zeroEv
  unfold Ev.val
  go_enter Tryd.func8, Tryd.ntmps8
  go_wp2_with fail
  exact bodyPost_ret (v := pairV zeroEv 30) (ret_ev2 rfl rfl hR.eq rfl rfl) rfl ⟨rfl, hab⟩

theorem step_bad (v : Int) (e : Ev) (r : Int) (w : World) (hv : v < 5) (hr : chk v e = r) (hr0 : r ≠ 0) : Calls Tryd.prog 8 #[.int .i64 v, e.val] w fun x w' => x = .returned (pairV zeroEv r) ∧ Below w.heap.size w w' := by
  have hv5 : ¬ 5 ≤ v := by omega
  have hrb : (r != 0) = true := by simpa using hr0
  have hck := fun wx => chk_any v e wx
  unfold GivesC at hck
  rw [hr] at hck
  unfold Ev.val at hck
  have HCK := Lib.hid hck
  clear hck
  obtain ⟨hE, hR, hab, hsz⟩ := two_new w e zeroEv
  have HW := Lib.hid (⟨_, rfl⟩ : ∃ wm, (w.alloc (.cells e.cells 24)).alloc (.cells zeroEv.cells 24) = wm)
  unfold Ev.val
  go_enter Tryd.func8, Tryd.ntmps8
  go_upto_region 3 with (fail)
  rw [show (#[.int .i64 0, .int .i64 0, .int .i64 0, .int .i64 0, .int .i64 0, .int .i64 0, .int .i64 0, .string ⟨#[]⟩, .int .i64 0, .string ⟨#[]⟩] : Array Value) = zeroEv.cells from rfl]
  obtain ⟨wm, hwm⟩ := HW.out
  rw [hwm] at hE hR hab hsz ⊢
  clear hwm HW
  go_wp2_with (with_reducible refine wpList_load_row rfl 24 (.tmp 3) rfl w.heap.size rfl _ e.cells (0, 0) _ hE.eq Tryd.underlying24 rfl (by with_unfolding_all exact info_ev) ?_)
  (with_reducible refine (HCK.out _).mono ?_)
  rintro x w1 ⟨rfl, hb1⟩
  have hE1 := hE.below hb1
  have hR1 := hR.below hb1
  have hab1 := below_next hab hb1
  have hs1 := hb1.size
  clear hE hR hab hb1
  go_wp2_with (with_reducible refine wpList_store_row rfl 24 (.tmp 4) (.tmp 16) rfl (w.heap.size + 1) zeroEv.cells rfl rfl _ _ hR1.eq (by with_unfolding_all exact info_ev) (by with_unfolding_all exact rfl) (by with_unfolding_all exact rfl) ?_)
  exact bodyPost_ret (v := pairV zeroEv r) (ret_ev2 rfl rfl (setRow_heap _ (w.heap.size + 1) _ zeroEv.cells _ _ hR1.eq) rfl rfl) rfl ⟨rfl, below_row hab1 (Nat.le_succ _) _⟩

theorem step_ok1 (e : Ev) (w : World) (ht : Tab w) (hR0 : Right 1 e) : Calls Tryd.prog 8 #[.int .i64 1, e.val] w fun x w' => x = .returned (pairV (e.up 1) 0) ∧ Below w.heap.size w w' := by
  have hr := right_to hR0
  have hlt := ht.lt
  have hck := fun wx => chk_any 1 e wx
  unfold GivesC at hck
  rw [hr] at hck
  unfold Ev.val at hck
  have HCK := Lib.hid hck
  clear hck
  obtain ⟨hE, hR, hab, hsz⟩ := two_new w e zeroEv
  have hTm := ht.below hab
  have HW := Lib.hid (⟨_, rfl⟩ : ∃ wm, (w.alloc (.cells e.cells 24)).alloc (.cells zeroEv.cells 24) = wm)
  unfold Ev.val
  go_enter Tryd.func8, Tryd.ntmps8
  go_upto_region 3 with (fail)
  rw [show (#[.int .i64 0, .int .i64 0, .int .i64 0, .int .i64 0, .int .i64 0, .int .i64 0, .int .i64 0, .string ⟨#[]⟩, .int .i64 0, .string ⟨#[]⟩] : Array Value) = zeroEv.cells from rfl]
  obtain ⟨wm, hwm⟩ := HW.out
  rw [hwm] at hE hR hab hsz hTm ⊢
  clear hwm HW
  go_wp2_with (with_reducible refine wpList_load_row rfl 24 (.tmp 3) rfl w.heap.size rfl _ e.cells (0, 0) _ hE.eq Tryd.underlying24 rfl (by with_unfolding_all exact info_ev) ?_)
  (with_reducible refine (HCK.out _).mono ?_)
  rintro x w1 ⟨rfl, hb1⟩
  have hE1 := hE.below hb1
  have hR1 := hR.below hb1
  have hab1 := below_next hab hb1
  have hs1 := hb1.size
  have hT1 := hTm.below hb1
  clear hE hR hab hb1
  have hsz2 : w.heap.size ≤ w1.heap.size := by omega
  go_wp2_with fail
  (with_reducible refine (hund_any w.heap.size e _ (hE1.below (below_made _ _)) hR0.p.1 (hR0.p1 rfl)).mono ?_)
  rintro x w2 ⟨⟨rr, rfl⟩, hE2, hg2⟩
  have hE3 : EvB w2 w.heap.size (e.up 1) := hE2
  have hZ2 := (hR1.below (below_made _ _)).turned hg2 (by omega)
  have hab2 := below_turned (below_next hab1 (below_made _ _)) hg2 (by simp; omega) (Nat.le_refl _)
  clear hg2 hE1 hR1 hab1 hT1 hTm
  go_wp2_with (first
    | (with_reducible refine wpList_load_row rfl 24 (.tmp 3) rfl w.heap.size rfl _ (e.up 1).cells (0, 0) _ hE3.eq Tryd.underlying24 rfl (by with_unfolding_all exact info_ev) ?_)
    | (with_reducible refine wpList_store_row rfl 24 (.tmp 4) (.tmp 25) rfl (w.heap.size + 1) (e.up 1).cells rfl rfl _ _ hZ2.eq (by with_unfolding_all exact info_ev) (by with_unfolding_all exact rfl) (by with_unfolding_all exact rfl) ?_))
  exact bodyPost_ret (v := pairV (e.up 1) 0) (ret_ev2 rfl rfl (setRow_heap _ (w.heap.size + 1) _ (e.up 1).cells _ _ hZ2.eq) rfl rfl) rfl ⟨rfl, below_row hab2 (Nat.le_succ _) _⟩

theorem step_ok2 (e : Ev) (w : World) (ht : Tab w) (hR0 : Right 2 e) : Calls Tryd.prog 8 #[.int .i64 2, e.val] w fun x w' => x = .returned (pairV (e.up 2) 0) ∧ Below w.heap.size w w' := by
  have hr := right_to hR0
  have hlt := ht.lt
  have hck := fun wx => chk_any 2 e wx
  unfold GivesC at hck
  rw [hr] at hck
  unfold Ev.val at hck
  have HCK := Lib.hid hck
  clear hck
  obtain ⟨hE, hR, hab, hsz⟩ := two_new w e zeroEv
  have hTm := ht.below hab
  have HW := Lib.hid (⟨_, rfl⟩ : ∃ wm, (w.alloc (.cells e.cells 24)).alloc (.cells zeroEv.cells 24) = wm)
  unfold Ev.val
  go_enter Tryd.func8, Tryd.ntmps8
  go_upto_region 3 with (fail)
  rw [show (#[.int .i64 0, .int .i64 0, .int .i64 0, .int .i64 0, .int .i64 0, .int .i64 0, .int .i64 0, .string ⟨#[]⟩, .int .i64 0, .string ⟨#[]⟩] : Array Value) = zeroEv.cells from rfl]
  obtain ⟨wm, hwm⟩ := HW.out
  rw [hwm] at hE hR hab hsz hTm ⊢
  clear hwm HW
  go_wp2_with (with_reducible refine wpList_load_row rfl 24 (.tmp 3) rfl w.heap.size rfl _ e.cells (0, 0) _ hE.eq Tryd.underlying24 rfl (by with_unfolding_all exact info_ev) ?_)
  (with_reducible refine (HCK.out _).mono ?_)
  rintro x w1 ⟨rfl, hb1⟩
  have hE1 := hE.below hb1
  have hR1 := hR.below hb1
  have hab1 := below_next hab hb1
  have hs1 := hb1.size
  have hT1 := hTm.below hb1
  clear hE hR hab hb1
  have hsz2 : w.heap.size ≤ w1.heap.size := by omega
  go_wp2_with fail
  (with_reducible refine (drops_any w.heap.size e _ (hE1.below (below_made _ _)) (hT1.below (below_made _ _)) hlt hR0.q.1 hR0.q.2 hR0.c.1 hR0.c.2).mono ?_)
  rintro x w2 ⟨⟨rr, rfl⟩, hE2, hg2⟩
  have hE3 : EvB w2 w.heap.size (e.up 2) := hE2
  have hZ2 := (hR1.below (below_made _ _)).turned hg2 (by omega)
  have hab2 := below_turned (below_next hab1 (below_made _ _)) hg2 (by simp; omega) (Nat.le_refl _)
  clear hg2 hE1 hR1 hab1 hT1 hTm
  go_wp2_with (first
    | (with_reducible refine wpList_load_row rfl 24 (.tmp 3) rfl w.heap.size rfl _ (e.up 2).cells (0, 0) _ hE3.eq Tryd.underlying24 rfl (by with_unfolding_all exact info_ev) ?_)
    | (with_reducible refine wpList_store_row rfl 24 (.tmp 4) (.tmp 25) rfl (w.heap.size + 1) (e.up 2).cells rfl rfl _ _ hZ2.eq (by with_unfolding_all exact info_ev) (by with_unfolding_all exact rfl) (by with_unfolding_all exact rfl) ?_))
  exact bodyPost_ret (v := pairV (e.up 2) 0) (ret_ev2 rfl rfl (setRow_heap _ (w.heap.size + 1) _ (e.up 2).cells _ _ hZ2.eq) rfl rfl) rfl ⟨rfl, below_row hab2 (Nat.le_succ _) _⟩

theorem step_ok3 (e : Ev) (w : World) (ht : Tab w) (hR0 : Right 3 e) : Calls Tryd.prog 8 #[.int .i64 3, e.val] w fun x w' => x = .returned (pairV (e.up 3) 0) ∧ Below w.heap.size w w' := by
  have hr := right_to hR0
  have hlt := ht.lt
  have hck := fun wx => chk_any 3 e wx
  unfold GivesC at hck
  rw [hr] at hck
  unfold Ev.val at hck
  have HCK := Lib.hid hck
  clear hck
  obtain ⟨hE, hR, hab, hsz⟩ := two_new w e zeroEv
  have hTm := ht.below hab
  have HW := Lib.hid (⟨_, rfl⟩ : ∃ wm, (w.alloc (.cells e.cells 24)).alloc (.cells zeroEv.cells 24) = wm)
  unfold Ev.val
  go_enter Tryd.func8, Tryd.ntmps8
  go_upto_region 3 with (fail)
  rw [show (#[.int .i64 0, .int .i64 0, .int .i64 0, .int .i64 0, .int .i64 0, .int .i64 0, .int .i64 0, .string ⟨#[]⟩, .int .i64 0, .string ⟨#[]⟩] : Array Value) = zeroEv.cells from rfl]
  obtain ⟨wm, hwm⟩ := HW.out
  rw [hwm] at hE hR hab hsz hTm ⊢
  clear hwm HW
  go_wp2_with (with_reducible refine wpList_load_row rfl 24 (.tmp 3) rfl w.heap.size rfl _ e.cells (0, 0) _ hE.eq Tryd.underlying24 rfl (by with_unfolding_all exact info_ev) ?_)
  (with_reducible refine (HCK.out _).mono ?_)
  rintro x w1 ⟨rfl, hb1⟩
  have hE1 := hE.below hb1
  have hR1 := hR.below hb1
  have hab1 := below_next hab hb1
  have hs1 := hb1.size
  have hT1 := hTm.below hb1
  clear hE hR hab hb1
  have hsz2 : w.heap.size ≤ w1.heap.size := by omega
  go_wp2_with fail
  (with_reducible refine (signed_any w.heap.size e _ (hE1.below (below_made _ _))).mono ?_)
  rintro x w2 ⟨⟨rr, rfl⟩, hE2, hg2⟩
  have hE3 : EvB w2 w.heap.size (e.up 3) := hE2
  have hZ2 := (hR1.below (below_made _ _)).turned hg2 (by omega)
  have hab2 := below_turned (below_next hab1 (below_made _ _)) hg2 (by simp; omega) (Nat.le_refl _)
  clear hg2 hE1 hR1 hab1 hT1 hTm
  go_wp2_with (first
    | (with_reducible refine wpList_load_row rfl 24 (.tmp 3) rfl w.heap.size rfl _ (e.up 3).cells (0, 0) _ hE3.eq Tryd.underlying24 rfl (by with_unfolding_all exact info_ev) ?_)
    | (with_reducible refine wpList_store_row rfl 24 (.tmp 4) (.tmp 25) rfl (w.heap.size + 1) (e.up 3).cells rfl rfl _ _ hZ2.eq (by with_unfolding_all exact info_ev) (by with_unfolding_all exact rfl) (by with_unfolding_all exact rfl) ?_))
  exact bodyPost_ret (v := pairV (e.up 3) 0) (ret_ev2 rfl rfl (setRow_heap _ (w.heap.size + 1) _ (e.up 3).cells _ _ hZ2.eq) rfl rfl) rfl ⟨rfl, below_row hab2 (Nat.le_succ _) _⟩

theorem step_ok4 (e : Ev) (w : World) (ht : Tab w) (hR0 : Right 4 e) : Calls Tryd.prog 8 #[.int .i64 4, e.val] w fun x w' => x = .returned (pairV (e.up 4) 0) ∧ Below w.heap.size w w' := by
  have hr := right_to hR0
  have hlt := ht.lt
  have hck := fun wx => chk_any 4 e wx
  unfold GivesC at hck
  rw [hr] at hck
  unfold Ev.val at hck
  have HCK := Lib.hid hck
  clear hck
  obtain ⟨hE, hR, hab, hsz⟩ := two_new w e zeroEv
  have hTm := ht.below hab
  have HW := Lib.hid (⟨_, rfl⟩ : ∃ wm, (w.alloc (.cells e.cells 24)).alloc (.cells zeroEv.cells 24) = wm)
  unfold Ev.val
  go_enter Tryd.func8, Tryd.ntmps8
  go_upto_region 3 with (fail)
  rw [show (#[.int .i64 0, .int .i64 0, .int .i64 0, .int .i64 0, .int .i64 0, .int .i64 0, .int .i64 0, .string ⟨#[]⟩, .int .i64 0, .string ⟨#[]⟩] : Array Value) = zeroEv.cells from rfl]
  obtain ⟨wm, hwm⟩ := HW.out
  rw [hwm] at hE hR hab hsz hTm ⊢
  clear hwm HW
  go_wp2_with (with_reducible refine wpList_load_row rfl 24 (.tmp 3) rfl w.heap.size rfl _ e.cells (0, 0) _ hE.eq Tryd.underlying24 rfl (by with_unfolding_all exact info_ev) ?_)
  (with_reducible refine (HCK.out _).mono ?_)
  rintro x w1 ⟨rfl, hb1⟩
  have hE1 := hE.below hb1
  have hR1 := hR.below hb1
  have hab1 := below_next hab hb1
  have hs1 := hb1.size
  have hT1 := hTm.below hb1
  clear hE hR hab hb1
  have hsz2 : w.heap.size ≤ w1.heap.size := by omega
  go_wp2_with fail
  (with_reducible refine (clears_any w.heap.size e _ (hE1.below (below_made _ _))).mono ?_)
  rintro x w2 ⟨⟨rr, rfl⟩, hE2, hg2⟩
  have hE3 : EvB w2 w.heap.size (e.up 4) := hE2
  have hZ2 := (hR1.below (below_made _ _)).turned hg2 (by omega)
  have hab2 := below_turned (below_next hab1 (below_made _ _)) hg2 (by simp; omega) (Nat.le_refl _)
  clear hg2 hE1 hR1 hab1 hT1 hTm
  go_wp2_with (first
    | (with_reducible refine wpList_load_row rfl 24 (.tmp 3) rfl w.heap.size rfl _ (e.up 4).cells (0, 0) _ hE3.eq Tryd.underlying24 rfl (by with_unfolding_all exact info_ev) ?_)
    | (with_reducible refine wpList_store_row rfl 24 (.tmp 4) (.tmp 25) rfl (w.heap.size + 1) (e.up 4).cells rfl rfl _ _ hZ2.eq (by with_unfolding_all exact info_ev) (by with_unfolding_all exact rfl) (by with_unfolding_all exact rfl) ?_))
  exact bodyPost_ret (v := pairV (e.up 4) 0) (ret_ev2 rfl rfl (setRow_heap _ (w.heap.size + 1) _ (e.up 4).cells _ _ hZ2.eq) rfl rfl) rfl ⟨rfl, below_row hab2 (Nat.le_succ _) _⟩

/-- What Step answers. -/
def stepE (v : Int) (e : Ev) : Ev := if 5 ≤ v then zeroEv else if chk v e = 0 then e.up v else zeroEv
def stepR (v : Int) (e : Ev) : Int := if 5 ≤ v then 30 else chk v e

theorem step_any (v : Int) (e : Ev) (w : World) (ht : Tab w) : Calls Tryd.prog 8 #[.int .i64 v, e.val] w fun x w' => x = .returned (pairV (stepE v e) (stepR v e)) ∧ Below w.heap.size w w' := by
  unfold stepE stepR
  by_cases h5 : 5 ≤ v
  · rw [if_pos h5, if_pos h5]; exact step_big v e w h5
  · rw [if_neg h5, if_neg h5]
    by_cases h0 : chk v e = 0
    · rw [if_pos h0, h0]
      have hR := right_of h0
      have hc : v = 1 ∨ v = 2 ∨ v = 3 ∨ v = 4 := by have := hR.v1; omega
      rcases hc with rfl | rfl | rfl | rfl
      · exact step_ok1 e w ht hR
      · exact step_ok2 e w ht hR
      · exact step_ok3 e w ht hR
      · exact step_ok4 e w ht hR
    · rw [if_neg h0]; exact step_bad v e _ w (by omega) rfl h0
end Go.Proofs.YtfpmlmohmmccjaaDoor
