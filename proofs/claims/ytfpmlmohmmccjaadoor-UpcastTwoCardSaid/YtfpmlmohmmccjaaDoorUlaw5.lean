/-
  The walk of UpcastTwo, printed by genulaw2.py. Condition: the program's table of taxes holds what its text lays.
-/
import Derived.Test.YtfpmlmohmmccjaaDoorUhead
namespace Go.Proofs.YtfpmlmohmmccjaaDoor
open Go.RowKit
set_option linter.unusedVariables false

theorem to_zero {f t : Int} {e : Ev} (h : toR f t e = 0) : chk f e = 0 ∧ f ≤ t ∧ t ≤ 5 := by
  by_cases hb : t < f ∨ 5 < t
  · rw [(to_bad (e := e) hb).2] at h; exact absurd h (by decide)
  · by_cases h0 : chk f e = 0
    · exact ⟨h0, by omega, by omega⟩
    · rw [(to_chk hb h0).2] at h; exact absurd h h0

set_option maxRecDepth 20000 in
set_option maxHeartbeats 3200000 in
theorem two_r (v via t : Int) (e : Ev) (w : World) (ht : Tab w) (h0 : toR v t e ≠ 0) :
    Calls Tryd.prog 7 #[.int .i64 v, .int .i64 via, .int .i64 t, e.val] w fun x w' => x = .returned (.bool true) ∧ Below w.heap.size w w' := by
  have hlt := ht.lt
  obtain ⟨A, hA⟩ : ∃ A, toE v t e = A := ⟨_, rfl⟩
  obtain ⟨r, hr⟩ : ∃ r, toR v t e = r := ⟨_, rfl⟩
  have ha := fun (wx : World) (htx : Tab wx) => to_any v t e wx htx
  rw [hA, hr] at ha
  rw [hr] at h0
  have hrb : (r != 0) = true := by simpa using h0
  clear hA hr h0
  have ha0 := ha
  unfold pairV Ev.val Ev.cells at ha0
  have HA := Lib.hid ha0
  clear ha0
  clear ha
  unfold Ev.val Ev.cells
  go_enter Tryd.func7, Tryd.ntmps7
  have hb0 := below_made w (.cells e.cells 24)
  have f0_E := evB_new w e
  have hT0 := ht.below hb0
  go_upto_region 1 with (fail)
  rw [show (#[.int .i64 e.kind, .int .i64 e.order, .int .i64 e.item, .int .i64 e.qty, .int .i64 e.price, .int .i64 e.cur, .int .i64 e.tax, .string e.who, .int .i64 e.stamp, .string e.note] : Array Value) = e.cells from rfl]
  obtain ⟨wa, hwa⟩ : ∃ wa, w.alloc (.cells e.cells 24) = wa := ⟨_, rfl⟩
  rw [hwa] at hb0 f0_E hT0 ⊢
  have hzE : w.heap.size < wa.heap.size := f0_E.lt
  clear hwa ht
  go_wp2_with fail
  (with_reducible refine (head_any _ hT0).mono ?_)
  rintro x w1 ⟨rfl, hx1⟩
  have f1_E := f0_E.below hx1
  have hT1 := hT0.below hx1
  have hb1 := below_next hb0 hx1
  clear f0_E hT0 hb0 hx1
  go_wp2_with (with_reducible refine wpList_load_row rfl 24 (.tmp 7) rfl w.heap.size rfl _ #[.int .i64 e.kind, .int .i64 e.order, .int .i64 e.item, .int .i64 e.qty, .int .i64 e.price, .int .i64 e.cur, .int .i64 e.tax, .string e.who, .int .i64 e.stamp, .string e.note] (0, 0) _ f1_E.lit Tryd.underlying24 rfl (by with_unfolding_all exact info_ev) ?_)
  (with_reducible refine (HA.out _ hT1).mono ?_)
  rintro x w2 ⟨rfl, hx2⟩
  have f2_E := f1_E.below hx2
  have hT2 := hT1.below hx2
  have hb2 := below_next hb1 hx2
  clear f1_E hT1 hb1 hx2
  go_upto_region 4 with (fail)
  have hm3 := below_made w2 (.cells A.cells 24)
  have f3_E := f2_E.below hm3
  have hT3 := hT2.below hm3
  have hb3 := below_next hb2 hm3
  have f3_A := evB_new w2 A
  rw [show (#[.int .i64 A.kind, .int .i64 A.order, .int .i64 A.item, .int .i64 A.qty, .int .i64 A.price, .int .i64 A.cur, .int .i64 A.tax, .string A.who, .int .i64 A.stamp, .string A.note] : Array Value) = A.cells from rfl]
  obtain ⟨w3, hw3⟩ : ∃ w3, w2.alloc (.cells A.cells 24) = w3 := ⟨_, rfl⟩
  rw [hw3] at f3_E f3_A hT3 hb3 ⊢
  have hzA : w2.heap.size < w3.heap.size := f3_A.lt
  have hyEA : w.heap.size < w2.heap.size := f2_E.lt
  clear hw3 hm3 hT2 hb2 f2_E
  go_wp2_with fail
  go_ret
  exact ⟨rfl, hb3⟩

set_option maxRecDepth 20000 in
set_option maxHeartbeats 3200000 in
theorem two_low (v via t : Int) (e : Ev) (w : World) (ht : Tab w) (hr0 : toR v t e = 0) (h1 : via < v) :
    Calls Tryd.prog 7 #[.int .i64 v, .int .i64 via, .int .i64 t, e.val] w fun x w' => x = .returned (.bool true) ∧ Below w.heap.size w w' := by
  have hlt := ht.lt
  obtain ⟨A, hA⟩ : ∃ A, toE v t e = A := ⟨_, rfl⟩
  obtain ⟨r, hr⟩ : ∃ r, toR v t e = r := ⟨_, rfl⟩
  have ha := fun (wx : World) (htx : Tab wx) => to_any v t e wx htx
  rw [hA, hr] at ha
  obtain rfl : r = 0 := hr.symm.trans hr0
  clear hA hr hr0
  have ha0 := ha
  unfold pairV Ev.val Ev.cells at ha0
  have HA := Lib.hid ha0
  clear ha0
  clear ha
  unfold Ev.val Ev.cells
  go_enter Tryd.func7, Tryd.ntmps7
  have hb0 := below_made w (.cells e.cells 24)
  have f0_E := evB_new w e
  have hT0 := ht.below hb0
  go_upto_region 1 with (fail)
  rw [show (#[.int .i64 e.kind, .int .i64 e.order, .int .i64 e.item, .int .i64 e.qty, .int .i64 e.price, .int .i64 e.cur, .int .i64 e.tax, .string e.who, .int .i64 e.stamp, .string e.note] : Array Value) = e.cells from rfl]
  obtain ⟨wa, hwa⟩ : ∃ wa, w.alloc (.cells e.cells 24) = wa := ⟨_, rfl⟩
  rw [hwa] at hb0 f0_E hT0 ⊢
  have hzE : w.heap.size < wa.heap.size := f0_E.lt
  clear hwa ht
  go_wp2_with fail
  (with_reducible refine (head_any _ hT0).mono ?_)
  rintro x w1 ⟨rfl, hx1⟩
  have f1_E := f0_E.below hx1
  have hT1 := hT0.below hx1
  have hb1 := below_next hb0 hx1
  clear f0_E hT0 hb0 hx1
  go_wp2_with (with_reducible refine wpList_load_row rfl 24 (.tmp 7) rfl w.heap.size rfl _ #[.int .i64 e.kind, .int .i64 e.order, .int .i64 e.item, .int .i64 e.qty, .int .i64 e.price, .int .i64 e.cur, .int .i64 e.tax, .string e.who, .int .i64 e.stamp, .string e.note] (0, 0) _ f1_E.lit Tryd.underlying24 rfl (by with_unfolding_all exact info_ev) ?_)
  (with_reducible refine (HA.out _ hT1).mono ?_)
  rintro x w2 ⟨rfl, hx2⟩
  have f2_E := f1_E.below hx2
  have hT2 := hT1.below hx2
  have hb2 := below_next hb1 hx2
  clear f1_E hT1 hb1 hx2
  go_upto_region 4 with (fail)
  have hm3 := below_made w2 (.cells A.cells 24)
  have f3_E := f2_E.below hm3
  have hT3 := hT2.below hm3
  have hb3 := below_next hb2 hm3
  have f3_A := evB_new w2 A
  rw [show (#[.int .i64 A.kind, .int .i64 A.order, .int .i64 A.item, .int .i64 A.qty, .int .i64 A.price, .int .i64 A.cur, .int .i64 A.tax, .string A.who, .int .i64 A.stamp, .string A.note] : Array Value) = A.cells from rfl]
  obtain ⟨w3, hw3⟩ : ∃ w3, w2.alloc (.cells A.cells 24) = w3 := ⟨_, rfl⟩
  rw [hw3] at f3_E f3_A hT3 hb3 ⊢
  have hzA : w2.heap.size < w3.heap.size := f3_A.lt
  have hyEA : w.heap.size < w2.heap.size := f2_E.lt
  clear hw3 hm3 hT2 hb2 f2_E
  go_wp2_with fail
  go_ret
  exact ⟨rfl, hb3⟩

set_option maxRecDepth 20000 in
set_option maxHeartbeats 3200000 in
theorem two_high (v via t : Int) (e : Ev) (w : World) (ht : Tab w) (hr0 : toR v t e = 0) (h1 : ¬ via < v) (h2 : t < via) :
    Calls Tryd.prog 7 #[.int .i64 v, .int .i64 via, .int .i64 t, e.val] w fun x w' => x = .returned (.bool true) ∧ Below w.heap.size w w' := by
  have hlt := ht.lt
  obtain ⟨A, hA⟩ : ∃ A, toE v t e = A := ⟨_, rfl⟩
  obtain ⟨r, hr⟩ : ∃ r, toR v t e = r := ⟨_, rfl⟩
  have ha := fun (wx : World) (htx : Tab wx) => to_any v t e wx htx
  rw [hA, hr] at ha
  obtain rfl : r = 0 := hr.symm.trans hr0
  clear hA hr hr0
  have ha0 := ha
  unfold pairV Ev.val Ev.cells at ha0
  have HA := Lib.hid ha0
  clear ha0
  clear ha
  unfold Ev.val Ev.cells
  go_enter Tryd.func7, Tryd.ntmps7
  have hb0 := below_made w (.cells e.cells 24)
  have f0_E := evB_new w e
  have hT0 := ht.below hb0
  go_upto_region 1 with (fail)
  rw [show (#[.int .i64 e.kind, .int .i64 e.order, .int .i64 e.item, .int .i64 e.qty, .int .i64 e.price, .int .i64 e.cur, .int .i64 e.tax, .string e.who, .int .i64 e.stamp, .string e.note] : Array Value) = e.cells from rfl]
  obtain ⟨wa, hwa⟩ : ∃ wa, w.alloc (.cells e.cells 24) = wa := ⟨_, rfl⟩
  rw [hwa] at hb0 f0_E hT0 ⊢
  have hzE : w.heap.size < wa.heap.size := f0_E.lt
  clear hwa ht
  go_wp2_with fail
  (with_reducible refine (head_any _ hT0).mono ?_)
  rintro x w1 ⟨rfl, hx1⟩
  have f1_E := f0_E.below hx1
  have hT1 := hT0.below hx1
  have hb1 := below_next hb0 hx1
  clear f0_E hT0 hb0 hx1
  go_wp2_with (with_reducible refine wpList_load_row rfl 24 (.tmp 7) rfl w.heap.size rfl _ #[.int .i64 e.kind, .int .i64 e.order, .int .i64 e.item, .int .i64 e.qty, .int .i64 e.price, .int .i64 e.cur, .int .i64 e.tax, .string e.who, .int .i64 e.stamp, .string e.note] (0, 0) _ f1_E.lit Tryd.underlying24 rfl (by with_unfolding_all exact info_ev) ?_)
  (with_reducible refine (HA.out _ hT1).mono ?_)
  rintro x w2 ⟨rfl, hx2⟩
  have f2_E := f1_E.below hx2
  have hT2 := hT1.below hx2
  have hb2 := below_next hb1 hx2
  clear f1_E hT1 hb1 hx2
  go_upto_region 4 with (fail)
  have hm3 := below_made w2 (.cells A.cells 24)
  have f3_E := f2_E.below hm3
  have hT3 := hT2.below hm3
  have hb3 := below_next hb2 hm3
  have f3_A := evB_new w2 A
  rw [show (#[.int .i64 A.kind, .int .i64 A.order, .int .i64 A.item, .int .i64 A.qty, .int .i64 A.price, .int .i64 A.cur, .int .i64 A.tax, .string A.who, .int .i64 A.stamp, .string A.note] : Array Value) = A.cells from rfl]
  obtain ⟨w3, hw3⟩ : ∃ w3, w2.alloc (.cells A.cells 24) = w3 := ⟨_, rfl⟩
  rw [hw3] at f3_E f3_A hT3 hb3 ⊢
  have hzA : w2.heap.size < w3.heap.size := f3_A.lt
  have hyEA : w.heap.size < w2.heap.size := f2_E.lt
  clear hw3 hm3 hT2 hb2 f2_E
  go_wp2_with fail
  go_ret
  exact ⟨rfl, hb3⟩

set_option maxRecDepth 20000 in
set_option maxHeartbeats 3200000 in
theorem two_end (v via t : Int) (e : Ev) (w : World) (ht : Tab w) (hr0 : toR v t e = 0) (h1 : v ≤ via) (h2 : via = t) :
    Calls Tryd.prog 7 #[.int .i64 v, .int .i64 via, .int .i64 t, e.val] w fun x w' => x = .returned (.bool true) ∧ Below w.heap.size w w' := by
  have hlt := ht.lt
  obtain ⟨A, hA⟩ : ∃ A, toE v t e = A := ⟨_, rfl⟩
  obtain ⟨r, hr⟩ : ∃ r, toR v t e = r := ⟨_, rfl⟩
  have ha := fun (wx : World) (htx : Tab wx) => to_any v t e wx htx
  rw [hA, hr] at ha
  obtain rfl := h2
  obtain rfl : r = 0 := hr.symm.trans hr0
  have hr0 : (0 : Int) = 0 := rfl
  have h0 := to_zero (hr)
  have hb := fun (wx : World) (htx : Tab wx) => to_any v via e wx htx
  have hc := fun (wx : World) (htx : Tab wx) => to_any via via (Ev.steps (via - v).toNat v e) wx htx
  have hR := right_of h0.1
  have hRv := right_steps (via - v).toNat hR (by omega)
  have hvn : v + ((via - v).toNat : Int) = via := by omega
  rw [hvn] at hRv
  obtain ⟨b1, b2⟩ := to_ok (f := v) (t := via) (e := e) (by omega) h0.1
  rw [b1, b2] at hb
  obtain ⟨c1, c2⟩ := to_ok (f := via) (t := via) (e := Ev.steps (via - v).toNat v e) (by omega) (right_to hRv)
  have hadd := steps_add (via - v).toNat (via - via).toNat v e
  rw [hvn, show (via - v).toNat + (via - via).toNat = (via - v).toNat by omega] at hadd
  obtain ⟨d1, d2⟩ := to_ok (f := v) (t := via) (e := e) (by omega) h0.1
  rw [c1, c2, ← hadd, ← d1, hA] at hc
  rw [← d1, hA] at hb
  have a1 : ¬ via < v := by omega
  have hb0 := hb
  unfold pairV Ev.val Ev.cells at hb0
  have HB := Lib.hid hb0
  clear hb0
  have hc0 := hc
  unfold pairV Ev.val Ev.cells at hc0
  have HC := Lib.hid hc0
  clear hc0
  clear hb hc hA hr hr0 h0 hR hRv hvn b1 b2 c1 c2 hadd d1 d2 h1
  have ha0 := ha
  unfold pairV Ev.val Ev.cells at ha0
  have HA := Lib.hid ha0
  clear ha0
  clear ha
  unfold Ev.val Ev.cells
  go_enter Tryd.func7, Tryd.ntmps7
  have hb0 := below_made w (.cells e.cells 24)
  have f0_E := evB_new w e
  have hT0 := ht.below hb0
  go_upto_region 1 with (fail)
  rw [show (#[.int .i64 e.kind, .int .i64 e.order, .int .i64 e.item, .int .i64 e.qty, .int .i64 e.price, .int .i64 e.cur, .int .i64 e.tax, .string e.who, .int .i64 e.stamp, .string e.note] : Array Value) = e.cells from rfl]
  obtain ⟨wa, hwa⟩ : ∃ wa, w.alloc (.cells e.cells 24) = wa := ⟨_, rfl⟩
  rw [hwa] at hb0 f0_E hT0 ⊢
  have hzE : w.heap.size < wa.heap.size := f0_E.lt
  clear hwa ht
  go_wp2_with fail
  (with_reducible refine (head_any _ hT0).mono ?_)
  rintro x w1 ⟨rfl, hx1⟩
  have f1_E := f0_E.below hx1
  have hT1 := hT0.below hx1
  have hb1 := below_next hb0 hx1
  clear f0_E hT0 hb0 hx1
  go_wp2_with (with_reducible refine wpList_load_row rfl 24 (.tmp 7) rfl w.heap.size rfl _ #[.int .i64 e.kind, .int .i64 e.order, .int .i64 e.item, .int .i64 e.qty, .int .i64 e.price, .int .i64 e.cur, .int .i64 e.tax, .string e.who, .int .i64 e.stamp, .string e.note] (0, 0) _ f1_E.lit Tryd.underlying24 rfl (by with_unfolding_all exact info_ev) ?_)
  (with_reducible refine (HA.out _ hT1).mono ?_)
  rintro x w2 ⟨rfl, hx2⟩
  have f2_E := f1_E.below hx2
  have hT2 := hT1.below hx2
  have hb2 := below_next hb1 hx2
  clear f1_E hT1 hb1 hx2
  go_upto_region 4 with (fail)
  have hm3 := below_made w2 (.cells A.cells 24)
  have f3_E := f2_E.below hm3
  have hT3 := hT2.below hm3
  have hb3 := below_next hb2 hm3
  have f3_A := evB_new w2 A
  rw [show (#[.int .i64 A.kind, .int .i64 A.order, .int .i64 A.item, .int .i64 A.qty, .int .i64 A.price, .int .i64 A.cur, .int .i64 A.tax, .string A.who, .int .i64 A.stamp, .string A.note] : Array Value) = A.cells from rfl]
  obtain ⟨w3, hw3⟩ : ∃ w3, w2.alloc (.cells A.cells 24) = w3 := ⟨_, rfl⟩
  rw [hw3] at f3_E f3_A hT3 hb3 ⊢
  have hzA : w2.heap.size < w3.heap.size := f3_A.lt
  have hyEA : w.heap.size < w2.heap.size := f2_E.lt
  clear hw3 hm3 hT2 hb2 f2_E
  go_wp2_with (with_reducible refine wpList_load_row rfl 24 (.tmp 7) rfl w.heap.size rfl _ #[.int .i64 e.kind, .int .i64 e.order, .int .i64 e.item, .int .i64 e.qty, .int .i64 e.price, .int .i64 e.cur, .int .i64 e.tax, .string e.who, .int .i64 e.stamp, .string e.note] (0, 0) _ f3_E.lit Tryd.underlying24 rfl (by with_unfolding_all exact info_ev) ?_)
  (with_reducible refine (HB.out _ hT3).mono ?_)
  rintro x w4 ⟨rfl, hx4⟩
  have f4_E := f3_E.below hx4
  have f4_A := f3_A.below hx4
  have hT4 := hT3.below hx4
  have hb4 := below_next hb3 hx4
  clear f3_E f3_A hT3 hb3 hx4
  go_upto_region 7 with (fail)
  have hm5 := below_made w4 (.cells A.cells 24)
  have f5_E := f4_E.below hm5
  have f5_A := f4_A.below hm5
  have hT5 := hT4.below hm5
  have hb5 := below_next hb4 hm5
  have f5_H := evB_new w4 A
  rw [show (#[.int .i64 A.kind, .int .i64 A.order, .int .i64 A.item, .int .i64 A.qty, .int .i64 A.price, .int .i64 A.cur, .int .i64 A.tax, .string A.who, .int .i64 A.stamp, .string A.note] : Array Value) = A.cells from rfl]
  obtain ⟨w5, hw5⟩ : ∃ w5, w4.alloc (.cells A.cells 24) = w5 := ⟨_, rfl⟩
  rw [hw5] at f5_E f5_A f5_H hT5 hb5 ⊢
  have hzH : w4.heap.size < w5.heap.size := f5_H.lt
  have hyEH : w.heap.size < w4.heap.size := f4_E.lt
  have hyAH : w2.heap.size < w4.heap.size := f4_A.lt
  clear hw5 hm5 hT4 hb4 f4_E f4_A
  go_wp2_with (with_reducible refine wpList_load_row rfl 24 (.tmp 11) rfl w4.heap.size rfl _ #[.int .i64 A.kind, .int .i64 A.order, .int .i64 A.item, .int .i64 A.qty, .int .i64 A.price, .int .i64 A.cur, .int .i64 A.tax, .string A.who, .int .i64 A.stamp, .string A.note] (0, 0) _ f5_H.lit Tryd.underlying24 rfl (by with_unfolding_all exact info_ev) ?_)
  (with_reducible refine (HC.out _ hT5).mono ?_)
  rintro x w6 ⟨rfl, hx6⟩
  have f6_E := f5_E.below hx6
  have f6_A := f5_A.below hx6
  have f6_H := f5_H.below hx6
  have hT6 := hT5.below hx6
  have hb6 := below_next hb5 hx6
  clear f5_E f5_A f5_H hT5 hb5 hx6
  go_upto_region 8 with (fail)
  have hm7 := below_made w6 (.cells A.cells 24)
  have f7_E := f6_E.below hm7
  have f7_A := f6_A.below hm7
  have f7_H := f6_H.below hm7
  have hT7 := hT6.below hm7
  have hb7 := below_next hb6 hm7
  have f7_R := evB_new w6 A
  rw [show (#[.int .i64 A.kind, .int .i64 A.order, .int .i64 A.item, .int .i64 A.qty, .int .i64 A.price, .int .i64 A.cur, .int .i64 A.tax, .string A.who, .int .i64 A.stamp, .string A.note] : Array Value) = A.cells from rfl]
  obtain ⟨w7, hw7⟩ : ∃ w7, w6.alloc (.cells A.cells 24) = w7 := ⟨_, rfl⟩
  rw [hw7] at f7_E f7_A f7_H f7_R hT7 hb7 ⊢
  have hzR : w6.heap.size < w7.heap.size := f7_R.lt
  have hyER : w.heap.size < w6.heap.size := f6_E.lt
  have hyAR : w2.heap.size < w6.heap.size := f6_A.lt
  have hyHR : w4.heap.size < w6.heap.size := f6_H.lt
  clear hw7 hm7 hT6 hb6 f6_E f6_A f6_H
  go_wp2_with (first
    | (with_reducible refine wpList_load_rowW (by with_unfolding_all rfl) 24 (.tmp 13) rfl w6.heap.size rfl _ #[.int .i64 A.kind, .int .i64 A.order, .int .i64 A.item, .int .i64 A.qty, .int .i64 A.price, .int .i64 A.cur, .int .i64 A.tax, .string A.who, .int .i64 A.stamp, .string A.note] (0, 0) _ f7_R.lit Tryd.underlying24 rfl (by with_unfolding_all exact info_ev) ?_)
    | (with_reducible refine wpList_load_rowW (by with_unfolding_all rfl) 24 (.tmp 9) rfl w2.heap.size rfl _ #[.int .i64 A.kind, .int .i64 A.order, .int .i64 A.item, .int .i64 A.qty, .int .i64 A.price, .int .i64 A.cur, .int .i64 A.tax, .string A.who, .int .i64 A.stamp, .string A.note] (0, 0) _ f7_A.lit Tryd.underlying24 rfl (by with_unfolding_all exact info_ev) ?_))
  go_ret
  exact ⟨rfl, hb7⟩

set_option maxRecDepth 20000 in
set_option maxHeartbeats 3200000 in
theorem two_more (v via t : Int) (e : Ev) (w : World) (ht : Tab w) (hr0 : toR v t e = 0) (h1 : v ≤ via) (h2 : via < t) :
    Calls Tryd.prog 7 #[.int .i64 v, .int .i64 via, .int .i64 t, e.val] w fun x w' => x = .returned (.bool true) ∧ Below w.heap.size w w' := by
  have hlt := ht.lt
  obtain ⟨A, hA⟩ : ∃ A, toE v t e = A := ⟨_, rfl⟩
  obtain ⟨r, hr⟩ : ∃ r, toR v t e = r := ⟨_, rfl⟩
  have ha := fun (wx : World) (htx : Tab wx) => to_any v t e wx htx
  rw [hA, hr] at ha
  obtain rfl : r = 0 := hr.symm.trans hr0
  have hr0 : (0 : Int) = 0 := rfl
  have h0 := to_zero (hr)
  have hb := fun (wx : World) (htx : Tab wx) => to_any v via e wx htx
  have hc := fun (wx : World) (htx : Tab wx) => to_any via t (Ev.steps (via - v).toNat v e) wx htx
  have hR := right_of h0.1
  have hRv := right_steps (via - v).toNat hR (by omega)
  have hvn : v + ((via - v).toNat : Int) = via := by omega
  rw [hvn] at hRv
  obtain ⟨b1, b2⟩ := to_ok (f := v) (t := via) (e := e) (by omega) h0.1
  rw [b1, b2] at hb
  obtain ⟨c1, c2⟩ := to_ok (f := via) (t := t) (e := Ev.steps (via - v).toNat v e) (by omega) (right_to hRv)
  have hadd := steps_add (via - v).toNat (t - via).toNat v e
  rw [hvn, show (via - v).toNat + (t - via).toNat = (t - v).toNat by omega] at hadd
  obtain ⟨d1, d2⟩ := to_ok (f := v) (t := t) (e := e) (by omega) h0.1
  rw [c1, c2, ← hadd, ← d1, hA] at hc
  have hd := fun (wx : World) (htx : Tab wx) => step_any via (Ev.steps (via - v).toNat v e) wx htx
  obtain ⟨s1, s2⟩ := step_right hRv (by omega)
  rw [s1, s2] at hd
  have hRo := right_up hRv (by omega)
  have he := fun (wx : World) (htx : Tab wx) => to_any (via + 1) t ((Ev.steps (via - v).toNat v e).up via) wx htx
  obtain ⟨e1, e2⟩ := to_ok (f := via + 1) (t := t) (e := (Ev.steps (via - v).toNat v e).up via) (by omega) (right_to hRo)
  have hx : Ev.steps (t - (via + 1)).toNat (via + 1) ((Ev.steps (via - v).toNat v e).up via) = Ev.steps (t - via).toNat via (Ev.steps (via - v).toNat v e) := by
    rw [show (t - via).toNat = (t - (via + 1)).toNat + 1 by omega]; rfl
  rw [e1, e2, hx, ← hadd, ← d1, hA] at he
  have hw : wrap64 (via + 1) = via + 1 := w64 (by have := hRv.v1; omega) (by omega)
  obtain ⟨O, hO⟩ : ∃ O, (Ev.steps (via - v).toNat v e).up via = O := ⟨_, rfl⟩
  rw [hO] at hd he
  obtain ⟨H, hH⟩ : ∃ H, Ev.steps (via - v).toNat v e = H := ⟨_, rfl⟩
  rw [hH] at hb hc hd
  have a1 : ¬ via < v := by omega
  have a2 : ¬ t < via := by omega
  have hb0 := hb
  unfold pairV Ev.val Ev.cells at hb0
  have HB := Lib.hid hb0
  clear hb0
  have hc0 := hc
  unfold pairV Ev.val Ev.cells at hc0
  have HC := Lib.hid hc0
  clear hc0
  have hd0 := hd
  unfold pairV Ev.val Ev.cells at hd0
  have HD := Lib.hid hd0
  clear hd0
  have he0 := he
  unfold pairV Ev.val Ev.cells at he0
  have HE := Lib.hid he0
  clear he0
  clear hb hc hd he hA hr hr0 h0 hR hRv hvn b1 b2 c1 c2 hadd d1 d2 s1 s2 hRo e1 e2 hx hO hH h1
  have ha0 := ha
  unfold pairV Ev.val Ev.cells at ha0
  have HA := Lib.hid ha0
  clear ha0
  clear ha
  unfold Ev.val Ev.cells
  go_enter Tryd.func7, Tryd.ntmps7
  have hb0 := below_made w (.cells e.cells 24)
  have f0_E := evB_new w e
  have hT0 := ht.below hb0
  go_upto_region 1 with (fail)
  rw [show (#[.int .i64 e.kind, .int .i64 e.order, .int .i64 e.item, .int .i64 e.qty, .int .i64 e.price, .int .i64 e.cur, .int .i64 e.tax, .string e.who, .int .i64 e.stamp, .string e.note] : Array Value) = e.cells from rfl]
  obtain ⟨wa, hwa⟩ : ∃ wa, w.alloc (.cells e.cells 24) = wa := ⟨_, rfl⟩
  rw [hwa] at hb0 f0_E hT0 ⊢
  have hzE : w.heap.size < wa.heap.size := f0_E.lt
  clear hwa ht
  go_wp2_with fail
  (with_reducible refine (head_any _ hT0).mono ?_)
  rintro x w1 ⟨rfl, hx1⟩
  have f1_E := f0_E.below hx1
  have hT1 := hT0.below hx1
  have hb1 := below_next hb0 hx1
  clear f0_E hT0 hb0 hx1
  go_wp2_with (with_reducible refine wpList_load_row rfl 24 (.tmp 7) rfl w.heap.size rfl _ #[.int .i64 e.kind, .int .i64 e.order, .int .i64 e.item, .int .i64 e.qty, .int .i64 e.price, .int .i64 e.cur, .int .i64 e.tax, .string e.who, .int .i64 e.stamp, .string e.note] (0, 0) _ f1_E.lit Tryd.underlying24 rfl (by with_unfolding_all exact info_ev) ?_)
  (with_reducible refine (HA.out _ hT1).mono ?_)
  rintro x w2 ⟨rfl, hx2⟩
  have f2_E := f1_E.below hx2
  have hT2 := hT1.below hx2
  have hb2 := below_next hb1 hx2
  clear f1_E hT1 hb1 hx2
  go_upto_region 4 with (fail)
  have hm3 := below_made w2 (.cells A.cells 24)
  have f3_E := f2_E.below hm3
  have hT3 := hT2.below hm3
  have hb3 := below_next hb2 hm3
  have f3_A := evB_new w2 A
  rw [show (#[.int .i64 A.kind, .int .i64 A.order, .int .i64 A.item, .int .i64 A.qty, .int .i64 A.price, .int .i64 A.cur, .int .i64 A.tax, .string A.who, .int .i64 A.stamp, .string A.note] : Array Value) = A.cells from rfl]
  obtain ⟨w3, hw3⟩ : ∃ w3, w2.alloc (.cells A.cells 24) = w3 := ⟨_, rfl⟩
  rw [hw3] at f3_E f3_A hT3 hb3 ⊢
  have hzA : w2.heap.size < w3.heap.size := f3_A.lt
  have hyEA : w.heap.size < w2.heap.size := f2_E.lt
  clear hw3 hm3 hT2 hb2 f2_E
  go_wp2_with (with_reducible refine wpList_load_row rfl 24 (.tmp 7) rfl w.heap.size rfl _ #[.int .i64 e.kind, .int .i64 e.order, .int .i64 e.item, .int .i64 e.qty, .int .i64 e.price, .int .i64 e.cur, .int .i64 e.tax, .string e.who, .int .i64 e.stamp, .string e.note] (0, 0) _ f3_E.lit Tryd.underlying24 rfl (by with_unfolding_all exact info_ev) ?_)
  (with_reducible refine (HB.out _ hT3).mono ?_)
  rintro x w4 ⟨rfl, hx4⟩
  have f4_E := f3_E.below hx4
  have f4_A := f3_A.below hx4
  have hT4 := hT3.below hx4
  have hb4 := below_next hb3 hx4
  clear f3_E f3_A hT3 hb3 hx4
  go_upto_region 7 with (fail)
  have hm5 := below_made w4 (.cells H.cells 24)
  have f5_E := f4_E.below hm5
  have f5_A := f4_A.below hm5
  have hT5 := hT4.below hm5
  have hb5 := below_next hb4 hm5
  have f5_H := evB_new w4 H
  rw [show (#[.int .i64 H.kind, .int .i64 H.order, .int .i64 H.item, .int .i64 H.qty, .int .i64 H.price, .int .i64 H.cur, .int .i64 H.tax, .string H.who, .int .i64 H.stamp, .string H.note] : Array Value) = H.cells from rfl]
  obtain ⟨w5, hw5⟩ : ∃ w5, w4.alloc (.cells H.cells 24) = w5 := ⟨_, rfl⟩
  rw [hw5] at f5_E f5_A f5_H hT5 hb5 ⊢
  have hzH : w4.heap.size < w5.heap.size := f5_H.lt
  have hyEH : w.heap.size < w4.heap.size := f4_E.lt
  have hyAH : w2.heap.size < w4.heap.size := f4_A.lt
  clear hw5 hm5 hT4 hb4 f4_E f4_A
  go_wp2_with (with_reducible refine wpList_load_row rfl 24 (.tmp 11) rfl w4.heap.size rfl _ #[.int .i64 H.kind, .int .i64 H.order, .int .i64 H.item, .int .i64 H.qty, .int .i64 H.price, .int .i64 H.cur, .int .i64 H.tax, .string H.who, .int .i64 H.stamp, .string H.note] (0, 0) _ f5_H.lit Tryd.underlying24 rfl (by with_unfolding_all exact info_ev) ?_)
  (with_reducible refine (HC.out _ hT5).mono ?_)
  rintro x w6 ⟨rfl, hx6⟩
  have f6_E := f5_E.below hx6
  have f6_A := f5_A.below hx6
  have f6_H := f5_H.below hx6
  have hT6 := hT5.below hx6
  have hb6 := below_next hb5 hx6
  clear f5_E f5_A f5_H hT5 hb5 hx6
  go_upto_region 8 with (fail)
  have hm7 := below_made w6 (.cells A.cells 24)
  have f7_E := f6_E.below hm7
  have f7_A := f6_A.below hm7
  have f7_H := f6_H.below hm7
  have hT7 := hT6.below hm7
  have hb7 := below_next hb6 hm7
  have f7_R := evB_new w6 A
  rw [show (#[.int .i64 A.kind, .int .i64 A.order, .int .i64 A.item, .int .i64 A.qty, .int .i64 A.price, .int .i64 A.cur, .int .i64 A.tax, .string A.who, .int .i64 A.stamp, .string A.note] : Array Value) = A.cells from rfl]
  obtain ⟨w7, hw7⟩ : ∃ w7, w6.alloc (.cells A.cells 24) = w7 := ⟨_, rfl⟩
  rw [hw7] at f7_E f7_A f7_H f7_R hT7 hb7 ⊢
  have hzR : w6.heap.size < w7.heap.size := f7_R.lt
  have hyER : w.heap.size < w6.heap.size := f6_E.lt
  have hyAR : w2.heap.size < w6.heap.size := f6_A.lt
  have hyHR : w4.heap.size < w6.heap.size := f6_H.lt
  clear hw7 hm7 hT6 hb6 f6_E f6_A f6_H
  go_wp2_with (first
    | (with_reducible refine wpList_load_rowW (by with_unfolding_all rfl) 24 (.tmp 13) rfl w6.heap.size rfl _ #[.int .i64 A.kind, .int .i64 A.order, .int .i64 A.item, .int .i64 A.qty, .int .i64 A.price, .int .i64 A.cur, .int .i64 A.tax, .string A.who, .int .i64 A.stamp, .string A.note] (0, 0) _ f7_R.lit Tryd.underlying24 rfl (by with_unfolding_all exact info_ev) ?_)
    | (with_reducible refine wpList_load_rowW (by with_unfolding_all rfl) 24 (.tmp 9) rfl w2.heap.size rfl _ #[.int .i64 A.kind, .int .i64 A.order, .int .i64 A.item, .int .i64 A.qty, .int .i64 A.price, .int .i64 A.cur, .int .i64 A.tax, .string A.who, .int .i64 A.stamp, .string A.note] (0, 0) _ f7_A.lit Tryd.underlying24 rfl (by with_unfolding_all exact info_ev) ?_)
    | (with_reducible refine wpList_load_row rfl 24 (.tmp 11) rfl w4.heap.size rfl _ #[.int .i64 H.kind, .int .i64 H.order, .int .i64 H.item, .int .i64 H.qty, .int .i64 H.price, .int .i64 H.cur, .int .i64 H.tax, .string H.who, .int .i64 H.stamp, .string H.note] (0, 0) _ f7_H.lit Tryd.underlying24 rfl (by with_unfolding_all exact info_ev) ?_))
  (with_reducible refine (HD.out _ hT7).mono ?_)
  rintro x w8 ⟨rfl, hx8⟩
  have f8_E := f7_E.below hx8
  have f8_A := f7_A.below hx8
  have f8_H := f7_H.below hx8
  have f8_R := f7_R.below hx8
  have hT8 := hT7.below hx8
  have hb8 := below_next hb7 hx8
  clear f7_E f7_A f7_H f7_R hT7 hb7 hx8
  go_upto_region 12 with (fail)
  have hm9 := below_made w8 (.cells O.cells 24)
  have f9_E := f8_E.below hm9
  have f9_A := f8_A.below hm9
  have f9_H := f8_H.below hm9
  have f9_R := f8_R.below hm9
  have hT9 := hT8.below hm9
  have hb9 := below_next hb8 hm9
  have f9_O := evB_new w8 O
  rw [show (#[.int .i64 O.kind, .int .i64 O.order, .int .i64 O.item, .int .i64 O.qty, .int .i64 O.price, .int .i64 O.cur, .int .i64 O.tax, .string O.who, .int .i64 O.stamp, .string O.note] : Array Value) = O.cells from rfl]
  obtain ⟨w9, hw9⟩ : ∃ w9, w8.alloc (.cells O.cells 24) = w9 := ⟨_, rfl⟩
  rw [hw9] at f9_E f9_A f9_H f9_R f9_O hT9 hb9 ⊢
  have hzO : w8.heap.size < w9.heap.size := f9_O.lt
  have hyEO : w.heap.size < w8.heap.size := f8_E.lt
  have hyAO : w2.heap.size < w8.heap.size := f8_A.lt
  have hyHO : w4.heap.size < w8.heap.size := f8_H.lt
  have hyRO : w6.heap.size < w8.heap.size := f8_R.lt
  clear hw9 hm9 hT8 hb8 f8_E f8_A f8_H f8_R
  go_wp2_with (with_reducible refine wpList_load_row rfl 24 (.tmp 15) rfl w8.heap.size rfl _ #[.int .i64 O.kind, .int .i64 O.order, .int .i64 O.item, .int .i64 O.qty, .int .i64 O.price, .int .i64 O.cur, .int .i64 O.tax, .string O.who, .int .i64 O.stamp, .string O.note] (0, 0) _ f9_O.lit Tryd.underlying24 rfl (by with_unfolding_all exact info_ev) ?_)
  (with_reducible refine (HE.out _ hT9).mono ?_)
  rintro x w10 ⟨rfl, hx10⟩
  have f10_E := f9_E.below hx10
  have f10_A := f9_A.below hx10
  have f10_H := f9_H.below hx10
  have f10_R := f9_R.below hx10
  have f10_O := f9_O.below hx10
  have hT10 := hT9.below hx10
  have hb10 := below_next hb9 hx10
  clear f9_E f9_A f9_H f9_R f9_O hT9 hb9 hx10
  go_upto_region 13 with (fail)
  have hm11 := below_made w10 (.cells A.cells 24)
  have f11_E := f10_E.below hm11
  have f11_A := f10_A.below hm11
  have f11_H := f10_H.below hm11
  have f11_R := f10_R.below hm11
  have f11_O := f10_O.below hm11
  have hT11 := hT10.below hm11
  have hb11 := below_next hb10 hm11
  have f11_L := evB_new w10 A
  rw [show (#[.int .i64 A.kind, .int .i64 A.order, .int .i64 A.item, .int .i64 A.qty, .int .i64 A.price, .int .i64 A.cur, .int .i64 A.tax, .string A.who, .int .i64 A.stamp, .string A.note] : Array Value) = A.cells from rfl]
  obtain ⟨w11, hw11⟩ : ∃ w11, w10.alloc (.cells A.cells 24) = w11 := ⟨_, rfl⟩
  rw [hw11] at f11_E f11_A f11_H f11_R f11_O f11_L hT11 hb11 ⊢
  have hzL : w10.heap.size < w11.heap.size := f11_L.lt
  have hyEL : w.heap.size < w10.heap.size := f10_E.lt
  have hyAL : w2.heap.size < w10.heap.size := f10_A.lt
  have hyHL : w4.heap.size < w10.heap.size := f10_H.lt
  have hyRL : w6.heap.size < w10.heap.size := f10_R.lt
  have hyOL : w8.heap.size < w10.heap.size := f10_O.lt
  clear hw11 hm11 hT10 hb10 f10_E f10_A f10_H f10_R f10_O
  go_wp2_with (first
    | (with_reducible refine wpList_load_rowW (by with_unfolding_all rfl) 24 (.tmp 17) rfl w10.heap.size rfl _ #[.int .i64 A.kind, .int .i64 A.order, .int .i64 A.item, .int .i64 A.qty, .int .i64 A.price, .int .i64 A.cur, .int .i64 A.tax, .string A.who, .int .i64 A.stamp, .string A.note] (0, 0) _ f11_L.lit Tryd.underlying24 rfl (by with_unfolding_all exact info_ev) ?_)
    | (with_reducible refine wpList_load_rowW (by with_unfolding_all rfl) 24 (.tmp 9) rfl w2.heap.size rfl _ #[.int .i64 A.kind, .int .i64 A.order, .int .i64 A.item, .int .i64 A.qty, .int .i64 A.price, .int .i64 A.cur, .int .i64 A.tax, .string A.who, .int .i64 A.stamp, .string A.note] (0, 0) _ f11_A.lit Tryd.underlying24 rfl (by with_unfolding_all exact info_ev) ?_))
  go_ret
  exact ⟨rfl, hb11⟩

theorem two_walk (v via t : Int) (ev : Value) (e : Ev) (w : World) (v0 : -9223372036854775808 ≤ v) (v1 : v ≤ 9223372036854775807) (x0 : -9223372036854775808 ≤ via) (x1 : via ≤ 9223372036854775807) (t0 : -9223372036854775808 ≤ t) (t1 : t ≤ 9223372036854775807) (he : ev = e.val ∧ e.ok) (ht : Tab w) :
    Calls Tryd.prog 7 #[.int .i64 v, .int .i64 via, .int .i64 t, ev] w fun x w' => x = .returned (.bool true) ∧ Below w.heap.size w w' := by
  obtain ⟨rfl, -⟩ := he
  by_cases h0 : toR v t e = 0
  · by_cases h1 : via < v
    · exact two_low v via t e w ht h0 h1
    by_cases h2 : t < via
    · exact two_high v via t e w ht h0 h1 h2
    by_cases h3 : via = t
    · exact two_end v via t e w ht h0 (by omega) h3
    · exact two_more v via t e w ht h0 (by omega) (by omega)
  · exact two_r v via t e w ht h0
end Go.Proofs.YtfpmlmohmmccjaaDoor
