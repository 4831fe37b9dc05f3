/-
  The walk of UpcastTos, printed by genulaw2.py. Condition: the program's table of taxes holds what its text lays.
-/
import Derived.Test.YtfpmlmohmmccjaaDoorUhead
namespace Go.Proofs.YtfpmlmohmmccjaaDoor
open Go.RowKit
set_option linter.unusedVariables false

set_option maxRecDepth 20000 in
set_option maxHeartbeats 3200000 in
theorem tos_walk (f t : Int) (ev : Value) (e : Ev) (w : World) (f0 : -9223372036854775808 ≤ f) (f1 : f ≤ 9223372036854775807) (t0 : -9223372036854775808 ≤ t) (t1 : t ≤ 9223372036854775807) (he : ev = e.val ∧ e.ok) (ht : Tab w) :
    Calls Tryd.prog 5 #[.int .i64 f, .int .i64 t, ev] w fun x w' => x = .returned (.bool true) ∧ Below w.heap.size w w' := by
  obtain ⟨rfl, -⟩ := he
  have hlt := ht.lt
  obtain ⟨X, hX⟩ : ∃ X, toE f t e = X := ⟨_, rfl⟩
  obtain ⟨r, hr⟩ : ∃ r, toR f t e = r := ⟨_, rfl⟩
  obtain ⟨Y, hY⟩ : ∃ Y, toE f 5 e = Y := ⟨_, rfl⟩
  obtain ⟨s, hs⟩ : ∃ s, toR f 5 e = s := ⟨_, rfl⟩
  have ha := fun wx => rto_any f t e wx
  have hb := fun (wx : World) (htx : Tab wx) => to_any f t e wx htx
  have hc := fun wx => rto_any f 5 e wx
  have hd := fun (wx : World) (htx : Tab wx) => chain_any f e wx htx
  rw [hX, hr] at ha hb
  rw [hY, hs] at hc hd
  clear hX hr hY hs
  have ha0 := ha
  unfold pairV Ev.val Ev.cells at ha0
  have HA := Lib.hid ha0
  clear ha0
  have hb0 := hb
  unfold pairV Ev.val Ev.cells at hb0
  have HB := Lib.hid hb0
  clear hb0
  have hc0 := hc
  unfold pairV Ev.val Ev.cells at hc0
  have HC := Lib.hid hc0
  clear hc0
  have hd0 := hd
  unfold pairV Ev.val Ev.cells at hd0
  have HD := Lib.hid hd0
  clear hd0
  clear ha hb hc hd
  unfold Ev.val Ev.cells
  go_enter Tryd.func5, Tryd.ntmps5
  have hb0 := below_made w (.cells e.cells 24)
  have f0_E := evB_new w e
  have hT0 := ht.below hb0
  go_upto_region 1 with (fail)
  rw [show (#[.int .i64 e.kind, .int .i64 e.order, .int .i64 e.item, .int .i64 e.qty, .int .i64 e.price, .int .i64 e.cur, .int .i64 e.tax, .string e.who, .int .i64 e.stamp, .string e.note] : Array Value) = e.cells from rfl]
  obtain ⟨wa, hwa⟩ : ∃ wa, w.alloc (.cells e.cells 24) = wa := ⟨_, rfl⟩
  rw [hwa] at hb0 f0_E hT0 ⊢
  have hzE : w.heap.size < wa.heap.size := f0_E.lt
  clear hwa ht
  go_wp2_with fail
  (with_reducible refine (head_any _ hT0).mono ?_)
  rintro x w1 ⟨rfl, hx1⟩
  have f1_E := f0_E.below hx1
  have hT1 := hT0.below hx1
  have hb1 := below_next hb0 hx1
  clear f0_E hT0 hb0 hx1
  go_wp2_with (with_reducible refine wpList_load_row rfl 24 (.tmp 5) rfl w.heap.size rfl _ #[.int .i64 e.kind, .int .i64 e.order, .int .i64 e.item, .int .i64 e.qty, .int .i64 e.price, .int .i64 e.cur, .int .i64 e.tax, .string e.who, .int .i64 e.stamp, .string e.note] (0, 0) _ f1_E.lit Tryd.underlying24 rfl (by with_unfolding_all exact info_ev) ?_)
  (with_reducible refine (HA.out _).mono ?_)
  rintro x w2 ⟨rfl, hx2⟩
  have f2_E := f1_E.below hx2
  have hT2 := hT1.below hx2
  have hb2 := below_next hb1 hx2
  clear f1_E hT1 hb1 hx2
  go_upto_region 4 with (fail)
  have hm3 := below_made w2 (.cells X.cells 24)
  have f3_E := f2_E.below hm3
  have hT3 := hT2.below hm3
  have hb3 := below_next hb2 hm3
  have f3_W := evB_new w2 X
  rw [show (#[.int .i64 X.kind, .int .i64 X.order, .int .i64 X.item, .int .i64 X.qty, .int .i64 X.price, .int .i64 X.cur, .int .i64 X.tax, .string X.who, .int .i64 X.stamp, .string X.note] : Array Value) = X.cells from rfl]
  obtain ⟨w3, hw3⟩ : ∃ w3, w2.alloc (.cells X.cells 24) = w3 := ⟨_, rfl⟩
  rw [hw3] at f3_E f3_W hT3 hb3 ⊢
  have hzW : w2.heap.size < w3.heap.size := f3_W.lt
  have hyEW : w.heap.size < w2.heap.size := f2_E.lt
  clear hw3 hm3 hT2 hb2 f2_E
  go_wp2_with (with_reducible refine wpList_load_row rfl 24 (.tmp 5) rfl w.heap.size rfl _ #[.int .i64 e.kind, .int .i64 e.order, .int .i64 e.item, .int .i64 e.qty, .int .i64 e.price, .int .i64 e.cur, .int .i64 e.tax, .string e.who, .int .i64 e.stamp, .string e.note] (0, 0) _ f3_E.lit Tryd.underlying24 rfl (by with_unfolding_all exact info_ev) ?_)
  (with_reducible refine (HB.out _ hT3).mono ?_)
  rintro x w4 ⟨rfl, hx4⟩
  have f4_E := f3_E.below hx4
  have f4_W := f3_W.below hx4
  have hT4 := hT3.below hx4
  have hb4 := below_next hb3 hx4
  clear f3_E f3_W hT3 hb3 hx4
  go_upto_region 5 with (fail)
  have hm5 := below_made w4 (.cells X.cells 24)
  have f5_E := f4_E.below hm5
  have f5_W := f4_W.below hm5
  have hT5 := hT4.below hm5
  have hb5 := below_next hb4 hm5
  have f5_G := evB_new w4 X
  rw [show (#[.int .i64 X.kind, .int .i64 X.order, .int .i64 X.item, .int .i64 X.qty, .int .i64 X.price, .int .i64 X.cur, .int .i64 X.tax, .string X.who, .int .i64 X.stamp, .string X.note] : Array Value) = X.cells from rfl]
  obtain ⟨w5, hw5⟩ : ∃ w5, w4.alloc (.cells X.cells 24) = w5 := ⟨_, rfl⟩
  rw [hw5] at f5_E f5_W f5_G hT5 hb5 ⊢
  have hzG : w4.heap.size < w5.heap.size := f5_G.lt
  have hyEG : w.heap.size < w4.heap.size := f4_E.lt
  have hyWG : w2.heap.size < w4.heap.size := f4_W.lt
  clear hw5 hm5 hT4 hb4 f4_E f4_W
  go_wp2_with (first
    | (with_reducible refine wpList_load_row rfl 24 (.tmp 9) rfl w4.heap.size rfl _ #[.int .i64 X.kind, .int .i64 X.order, .int .i64 X.item, .int .i64 X.qty, .int .i64 X.price, .int .i64 X.cur, .int .i64 X.tax, .string X.who, .int .i64 X.stamp, .string X.note] (0, 0) _ f5_G.lit Tryd.underlying24 rfl (by with_unfolding_all exact info_ev) ?_)
    | (with_reducible refine wpList_load_row rfl 24 (.tmp 7) rfl w2.heap.size rfl _ #[.int .i64 X.kind, .int .i64 X.order, .int .i64 X.item, .int .i64 X.qty, .int .i64 X.price, .int .i64 X.cur, .int .i64 X.tax, .string X.who, .int .i64 X.stamp, .string X.note] (0, 0) _ f5_W.lit Tryd.underlying24 rfl (by with_unfolding_all exact info_ev) ?_)
    | (with_reducible refine wpList_load_row rfl 24 (.tmp 5) rfl w.heap.size rfl _ #[.int .i64 e.kind, .int .i64 e.order, .int .i64 e.item, .int .i64 e.qty, .int .i64 e.price, .int .i64 e.cur, .int .i64 e.tax, .string e.who, .int .i64 e.stamp, .string e.note] (0, 0) _ f5_E.lit Tryd.underlying24 rfl (by with_unfolding_all exact info_ev) ?_))
  (with_reducible refine (HC.out _).mono ?_)
  rintro x w6 ⟨rfl, hx6⟩
  have f6_E := f5_E.below hx6
  have f6_W := f5_W.below hx6
  have f6_G := f5_G.below hx6
  have hT6 := hT5.below hx6
  have hb6 := below_next hb5 hx6
  clear f5_E f5_W f5_G hT5 hb5 hx6
  go_upto_region 8 with (with_reducible refine wpList_store_row rfl 24 (.tmp 7) (.tmp 39) rfl w2.heap.size #[.int .i64 Y.kind, .int .i64 Y.order, .int .i64 Y.item, .int .i64 Y.qty, .int .i64 Y.price, .int .i64 Y.cur, .int .i64 Y.tax, .string Y.who, .int .i64 Y.stamp, .string Y.note] rfl rfl _ _ f6_W.eq (by with_unfolding_all exact info_ev) (by with_unfolding_all exact rfl) (by with_unfolding_all exact rfl) ?_)
  rw [show (#[.int .i64 Y.kind, .int .i64 Y.order, .int .i64 Y.item, .int .i64 Y.qty, .int .i64 Y.price, .int .i64 Y.cur, .int .i64 Y.tax, .string Y.who, .int .i64 Y.stamp, .string Y.note] : Array Value) = Y.cells from rfl]
  have f7_E : EvB (w6.setRow (w2.heap.size) Y.cells) (w.heap.size) e := f6_E.rowOther (by omega)
  have f7_W := f6_W.row Y
  have f7_G : EvB (w6.setRow (w2.heap.size) Y.cells) (w4.heap.size) X := f6_G.rowOther (by omega)
  have hT7 : Tab (w6.setRow (w2.heap.size) Y.cells) := hT6.row (by have := hlt; omega)
  have hb7 := below_row hb6 (show w.heap.size ≤ w2.heap.size by omega) Y.cells
  obtain ⟨w7, hw7⟩ : ∃ w7, w6.setRow (w2.heap.size) Y.cells = w7 := ⟨_, rfl⟩
  rw [hw7] at f7_E f7_W f7_G hT7 hb7 ⊢
  clear hw7 hT6 hb6 f6_E f6_W f6_G
  go_wp2_with (with_reducible refine wpList_load_row rfl 24 (.tmp 5) rfl w.heap.size rfl _ #[.int .i64 e.kind, .int .i64 e.order, .int .i64 e.item, .int .i64 e.qty, .int .i64 e.price, .int .i64 e.cur, .int .i64 e.tax, .string e.who, .int .i64 e.stamp, .string e.note] (0, 0) _ f7_E.lit Tryd.underlying24 rfl (by with_unfolding_all exact info_ev) ?_)
  (with_reducible refine (HD.out _ hT7).mono ?_)
  rintro x w8 ⟨rfl, hx8⟩
  have f8_E := f7_E.below hx8
  have f8_W := f7_W.below hx8
  have f8_G := f7_G.below hx8
  have hT8 := hT7.below hx8
  have hb8 := below_next hb7 hx8
  clear f7_E f7_W f7_G hT7 hb7 hx8
  go_upto_region 9 with (with_reducible refine wpList_store_row rfl 24 (.tmp 9) (.tmp 45) rfl w4.heap.size #[.int .i64 Y.kind, .int .i64 Y.order, .int .i64 Y.item, .int .i64 Y.qty, .int .i64 Y.price, .int .i64 Y.cur, .int .i64 Y.tax, .string Y.who, .int .i64 Y.stamp, .string Y.note] rfl rfl _ _ f8_G.eq (by with_unfolding_all exact info_ev) (by with_unfolding_all exact rfl) (by with_unfolding_all exact rfl) ?_)
  rw [show (#[.int .i64 Y.kind, .int .i64 Y.order, .int .i64 Y.item, .int .i64 Y.qty, .int .i64 Y.price, .int .i64 Y.cur, .int .i64 Y.tax, .string Y.who, .int .i64 Y.stamp, .string Y.note] : Array Value) = Y.cells from rfl]
  have f9_E : EvB (w8.setRow (w4.heap.size) Y.cells) (w.heap.size) e := f8_E.rowOther (by omega)
  have f9_W : EvB (w8.setRow (w4.heap.size) Y.cells) (w2.heap.size) Y := f8_W.rowOther (by omega)
  have f9_G := f8_G.row Y
  have hT9 : Tab (w8.setRow (w4.heap.size) Y.cells) := hT8.row (by have := hlt; omega)
  have hb9 := below_row hb8 (show w.heap.size ≤ w4.heap.size by omega) Y.cells
  obtain ⟨w9, hw9⟩ : ∃ w9, w8.setRow (w4.heap.size) Y.cells = w9 := ⟨_, rfl⟩
  rw [hw9] at f9_E f9_W f9_G hT9 hb9 ⊢
  clear hw9 hT8 hb8 f8_E f8_W f8_G
  go_wp2_with (first
    | (with_reducible refine wpList_load_row rfl 24 (.tmp 9) rfl w4.heap.size rfl _ #[.int .i64 Y.kind, .int .i64 Y.order, .int .i64 Y.item, .int .i64 Y.qty, .int .i64 Y.price, .int .i64 Y.cur, .int .i64 Y.tax, .string Y.who, .int .i64 Y.stamp, .string Y.note] (0, 0) _ f9_G.lit Tryd.underlying24 rfl (by with_unfolding_all exact info_ev) ?_)
    | (with_reducible refine wpList_load_row rfl 24 (.tmp 7) rfl w2.heap.size rfl _ #[.int .i64 Y.kind, .int .i64 Y.order, .int .i64 Y.item, .int .i64 Y.qty, .int .i64 Y.price, .int .i64 Y.cur, .int .i64 Y.tax, .string Y.who, .int .i64 Y.stamp, .string Y.note] (0, 0) _ f9_W.lit Tryd.underlying24 rfl (by with_unfolding_all exact info_ev) ?_))
  go_ret
  exact ⟨rfl, hb9⟩
end Go.Proofs.YtfpmlmohmmccjaaDoor
