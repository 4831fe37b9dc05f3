/-
  The walk of UpcastMoney, printed by genulaw2.py. Condition: the program's table of taxes holds what its text lays.
-/
import Derived.Test.YtfpmlmohmmccjaaDoorUhead
namespace Go.Proofs.YtfpmlmohmmccjaaDoor
open Go.RowKit
set_option linter.unusedVariables false

set_option maxRecDepth 20000 in
set_option maxHeartbeats 3200000 in
theorem money_a1 (e : Ev) (w : World) (ht : Tab w) (h0 : chk 1 e = 0) (k2 : e.kind ≠ 2) (q0 : e.qty < 0) (pr1 : 0 ≤ e.price) (pr2 : e.price ≤ 100000000) (hp : (Ev.steps (5 - (1 : Int)).toNat 1 e).price = 100 * e.price) (hc : (Ev.steps (5 - (1 : Int)).toNat 1 e).cur = e.cur) (hs : (Ev.steps (5 - (1 : Int)).toNat 1 e).stamp = e.stamp) (hn : (Ev.steps (5 - (1 : Int)).toNat 1 e).note = e.note) (hq : (Ev.steps (5 - (1 : Int)).toNat 1 e).qty = 0) :
    Calls Tryd.prog 4 #[.int .i64 1, e.val] w fun x w' => x = .returned (.bool true) ∧ Below w.heap.size w w' := by
  have hlt := ht.lt
  obtain ⟨X, hX⟩ : ∃ X, Ev.steps (5 - (1 : Int)).toNat 1 e = X := ⟨_, rfl⟩
  have ha := fun (wx : World) (htx : Tab wx) => chain_any 1 e wx htx
  obtain ⟨a1, a2⟩ := to_ok (f := 1) (t := 5) (e := e) (by omega) h0
  rw [a1, a2, hX] at ha
  rw [hX] at hp hc hs hn hq
  clear a1 a2 hX h0
  have ha0 := ha
  unfold pairV Ev.val Ev.cells at ha0
  have HA := Lib.hid ha0
  clear ha0
  clear ha
  have HP := Lib.hid hp
  have HCU := Lib.hid hc
  have HS := Lib.hid hs
  have HNO := Lib.hid hn
  have HQ := Lib.hid hq
  clear hp hc hs hn hq
  have hm1 : wrap64 e.price = e.price := w64 (by omega) (by omega)
  have hm2 : wrap64 (100 * e.price) = 100 * e.price := w64 (by omega) (by omega)
  have hm3 : wrap64 (1 * e.price) = e.price := by rw [Int.one_mul]; exact hm1
  clear pr1 pr2
  have kb : (e.kind != 2) = true := by simpa using k2
  clear k2
  unfold Ev.val Ev.cells
  go_enter Tryd.func4, Tryd.ntmps4
  have hb0 := below_made w (.cells e.cells 24)
  have f0_E := evB_new w e
  have hT0 := ht.below hb0
  go_upto_region 1 with (fail)
  rw [show (#[.int .i64 e.kind, .int .i64 e.order, .int .i64 e.item, .int .i64 e.qty, .int .i64 e.price, .int .i64 e.cur, .int .i64 e.tax, .string e.who, .int .i64 e.stamp, .string e.note] : Array Value) = e.cells from rfl]
  obtain ⟨wa, hwa⟩ : ∃ wa, w.alloc (.cells e.cells 24) = wa := ⟨_, rfl⟩
  rw [hwa] at hb0 f0_E hT0 ⊢
  have hzE : w.heap.size < wa.heap.size := f0_E.lt
  clear hwa ht
  go_wp2_with fail
  (with_reducible refine (head_any _ hT0).mono ?_)
  rintro x w1 ⟨rfl, hx1⟩
  have f1_E := f0_E.below hx1
  have hT1 := hT0.below hx1
  have hb1 := below_next hb0 hx1
  clear f0_E hT0 hb0 hx1
  go_wp2_with (with_reducible refine wpList_load_row rfl 24 (.tmp 3) rfl w.heap.size rfl _ #[.int .i64 e.kind, .int .i64 e.order, .int .i64 e.item, .int .i64 e.qty, .int .i64 e.price, .int .i64 e.cur, .int .i64 e.tax, .string e.who, .int .i64 e.stamp, .string e.note] (0, 0) _ f1_E.lit Tryd.underlying24 rfl (by with_unfolding_all exact info_ev) ?_)
  (with_reducible refine (HA.out _ hT1).mono ?_)
  rintro x w2 ⟨rfl, hx2⟩
  have f2_E := f1_E.below hx2
  have hT2 := hT1.below hx2
  have hb2 := below_next hb1 hx2
  clear f1_E hT1 hb1 hx2
  go_upto_region 4 with (fail)
  have hm3 := below_made w2 (.cells X.cells 24)
  have f3_E := f2_E.below hm3
  have hT3 := hT2.below hm3
  have hb3 := below_next hb2 hm3
  have f3_F := evB_new w2 X
  rw [show (#[.int .i64 X.kind, .int .i64 X.order, .int .i64 X.item, .int .i64 X.qty, .int .i64 X.price, .int .i64 X.cur, .int .i64 X.tax, .string X.who, .int .i64 X.stamp, .string X.note] : Array Value) = X.cells from rfl]
  obtain ⟨w3, hw3⟩ : ∃ w3, w2.alloc (.cells X.cells 24) = w3 := ⟨_, rfl⟩
  rw [hw3] at f3_E f3_F hT3 hb3 ⊢
  have hzF : w2.heap.size < w3.heap.size := f3_F.lt
  have hyEF : w.heap.size < w2.heap.size := f2_E.lt
  clear hw3 hm3 hT2 hb2 f2_E
  have cE0 : w3.cell? ⟨w.heap.size, 0, none⟩ = some (.int .i64 e.kind) := cell_blk f3_E.lit rfl
  have cE3 : w3.cell? ⟨w.heap.size, 3, none⟩ = some (.int .i64 e.qty) := cell_blk f3_E.lit rfl
  have cE4 : w3.cell? ⟨w.heap.size, 4, none⟩ = some (.int .i64 e.price) := cell_blk f3_E.lit rfl
  have cE5 : w3.cell? ⟨w.heap.size, 5, none⟩ = some (.int .i64 e.cur) := cell_blk f3_E.lit rfl
  have cE8 : w3.cell? ⟨w.heap.size, 8, none⟩ = some (.int .i64 e.stamp) := cell_blk f3_E.lit rfl
  have cE9 : w3.cell? ⟨w.heap.size, 9, none⟩ = some (.string e.note) := cell_blk f3_E.lit rfl
  have cF3 : w3.cell? ⟨w2.heap.size, 3, none⟩ = some (.int .i64 (0)) := (cell_blk (v := .int .i64 X.qty) f3_F.lit rfl).trans (by rw [HQ.out])
  have cF4 : w3.cell? ⟨w2.heap.size, 4, none⟩ = some (.int .i64 (100 * e.price)) := (cell_blk (v := .int .i64 X.price) f3_F.lit rfl).trans (by rw [HP.out])
  have cF5 : w3.cell? ⟨w2.heap.size, 5, none⟩ = some (.int .i64 (e.cur)) := (cell_blk (v := .int .i64 X.cur) f3_F.lit rfl).trans (by rw [HCU.out])
  have cF8 : w3.cell? ⟨w2.heap.size, 8, none⟩ = some (.int .i64 (e.stamp)) := (cell_blk (v := .int .i64 X.stamp) f3_F.lit rfl).trans (by rw [HS.out])
  have cF9 : w3.cell? ⟨w2.heap.size, 9, none⟩ = some (.string (e.note)) := (cell_blk (v := .string X.note) f3_F.lit rfl).trans (by rw [HNO.out])
  clear f3_E f3_F HP HCU HS HNO HQ
  go_wp2_with fail
  go_ret
  exact ⟨rfl, hb3⟩

set_option maxRecDepth 20000 in
set_option maxHeartbeats 3200000 in
theorem money_b1 (e : Ev) (w : World) (ht : Tab w) (h0 : chk 1 e = 0) (k2 : e.kind = 2) (q0 : e.qty < 0) (q1 : -10000 ≤ e.qty) (pr1 : 0 ≤ e.price) (pr2 : e.price ≤ 100000000) (hp : (Ev.steps (5 - (1 : Int)).toNat 1 e).price = 100 * e.price) (hc : (Ev.steps (5 - (1 : Int)).toNat 1 e).cur = e.cur) (hs : (Ev.steps (5 - (1 : Int)).toNat 1 e).stamp = e.stamp) (hn : (Ev.steps (5 - (1 : Int)).toNat 1 e).note = e.note) (hq : (Ev.steps (5 - (1 : Int)).toNat 1 e).qty = -e.qty) :
    Calls Tryd.prog 4 #[.int .i64 1, e.val] w fun x w' => x = .returned (.bool true) ∧ Below w.heap.size w w' := by
  have hlt := ht.lt
  obtain ⟨X, hX⟩ : ∃ X, Ev.steps (5 - (1 : Int)).toNat 1 e = X := ⟨_, rfl⟩
  have ha := fun (wx : World) (htx : Tab wx) => chain_any 1 e wx htx
  obtain ⟨a1, a2⟩ := to_ok (f := 1) (t := 5) (e := e) (by omega) h0
  rw [a1, a2, hX] at ha
  rw [hX] at hp hc hs hn hq
  clear a1 a2 hX h0
  have ha0 := ha
  unfold pairV Ev.val Ev.cells at ha0
  have HA := Lib.hid ha0
  clear ha0
  clear ha
  have HP := Lib.hid hp
  have HCU := Lib.hid hc
  have HS := Lib.hid hs
  have HNO := Lib.hid hn
  have HQ := Lib.hid hq
  clear hp hc hs hn hq
  have hm1 : wrap64 e.price = e.price := w64 (by omega) (by omega)
  have hm2 : wrap64 (100 * e.price) = 100 * e.price := w64 (by omega) (by omega)
  have hm3 : wrap64 (1 * e.price) = e.price := by rw [Int.one_mul]; exact hm1
  clear pr1 pr2
  have kb : (e.kind != 2) = false := by rw [k2]; rfl
  have qb : (-e.qty == e.qty) = false := by rw [beq_eq_false_iff_ne]; omega
  have qw : wrap64 (-e.qty) = -e.qty := w64 (by omega) (by omega)
  clear k2 q1
  unfold Ev.val Ev.cells
  go_enter Tryd.func4, Tryd.ntmps4
  have hb0 := below_made w (.cells e.cells 24)
  have f0_E := evB_new w e
  have hT0 := ht.below hb0
  go_upto_region 1 with (fail)
  rw [show (#[.int .i64 e.kind, .int .i64 e.order, .int .i64 e.item, .int .i64 e.qty, .int .i64 e.price, .int .i64 e.cur, .int .i64 e.tax, .string e.who, .int .i64 e.stamp, .string e.note] : Array Value) = e.cells from rfl]
  obtain ⟨wa, hwa⟩ : ∃ wa, w.alloc (.cells e.cells 24) = wa := ⟨_, rfl⟩
  rw [hwa] at hb0 f0_E hT0 ⊢
  have hzE : w.heap.size < wa.heap.size := f0_E.lt
  clear hwa ht
  go_wp2_with fail
  (with_reducible refine (head_any _ hT0).mono ?_)
  rintro x w1 ⟨rfl, hx1⟩
  have f1_E := f0_E.below hx1
  have hT1 := hT0.below hx1
  have hb1 := below_next hb0 hx1
  clear f0_E hT0 hb0 hx1
  go_wp2_with (with_reducible refine wpList_load_row rfl 24 (.tmp 3) rfl w.heap.size rfl _ #[.int .i64 e.kind, .int .i64 e.order, .int .i64 e.item, .int .i64 e.qty, .int .i64 e.price, .int .i64 e.cur, .int .i64 e.tax, .string e.who, .int .i64 e.stamp, .string e.note] (0, 0) _ f1_E.lit Tryd.underlying24 rfl (by with_unfolding_all exact info_ev) ?_)
  (with_reducible refine (HA.out _ hT1).mono ?_)
  rintro x w2 ⟨rfl, hx2⟩
  have f2_E := f1_E.below hx2
  have hT2 := hT1.below hx2
  have hb2 := below_next hb1 hx2
  clear f1_E hT1 hb1 hx2
  go_upto_region 4 with (fail)
  have hm3 := below_made w2 (.cells X.cells 24)
  have f3_E := f2_E.below hm3
  have hT3 := hT2.below hm3
  have hb3 := below_next hb2 hm3
  have f3_F := evB_new w2 X
  rw [show (#[.int .i64 X.kind, .int .i64 X.order, .int .i64 X.item, .int .i64 X.qty, .int .i64 X.price, .int .i64 X.cur, .int .i64 X.tax, .string X.who, .int .i64 X.stamp, .string X.note] : Array Value) = X.cells from rfl]
  obtain ⟨w3, hw3⟩ : ∃ w3, w2.alloc (.cells X.cells 24) = w3 := ⟨_, rfl⟩
  rw [hw3] at f3_E f3_F hT3 hb3 ⊢
  have hzF : w2.heap.size < w3.heap.size := f3_F.lt
  have hyEF : w.heap.size < w2.heap.size := f2_E.lt
  clear hw3 hm3 hT2 hb2 f2_E
  have cE0 : w3.cell? ⟨w.heap.size, 0, none⟩ = some (.int .i64 e.kind) := cell_blk f3_E.lit rfl
  have cE3 : w3.cell? ⟨w.heap.size, 3, none⟩ = some (.int .i64 e.qty) := cell_blk f3_E.lit rfl
  have cE4 : w3.cell? ⟨w.heap.size, 4, none⟩ = some (.int .i64 e.price) := cell_blk f3_E.lit rfl
  have cE5 : w3.cell? ⟨w.heap.size, 5, none⟩ = some (.int .i64 e.cur) := cell_blk f3_E.lit rfl
  have cE8 : w3.cell? ⟨w.heap.size, 8, none⟩ = some (.int .i64 e.stamp) := cell_blk f3_E.lit rfl
  have cE9 : w3.cell? ⟨w.heap.size, 9, none⟩ = some (.string e.note) := cell_blk f3_E.lit rfl
  have cF3 : w3.cell? ⟨w2.heap.size, 3, none⟩ = some (.int .i64 (-e.qty)) := (cell_blk (v := .int .i64 X.qty) f3_F.lit rfl).trans (by rw [HQ.out])
  have cF4 : w3.cell? ⟨w2.heap.size, 4, none⟩ = some (.int .i64 (100 * e.price)) := (cell_blk (v := .int .i64 X.price) f3_F.lit rfl).trans (by rw [HP.out])
  have cF5 : w3.cell? ⟨w2.heap.size, 5, none⟩ = some (.int .i64 (e.cur)) := (cell_blk (v := .int .i64 X.cur) f3_F.lit rfl).trans (by rw [HCU.out])
  have cF8 : w3.cell? ⟨w2.heap.size, 8, none⟩ = some (.int .i64 (e.stamp)) := (cell_blk (v := .int .i64 X.stamp) f3_F.lit rfl).trans (by rw [HS.out])
  have cF9 : w3.cell? ⟨w2.heap.size, 9, none⟩ = some (.string (e.note)) := (cell_blk (v := .string X.note) f3_F.lit rfl).trans (by rw [HNO.out])
  clear f3_E f3_F HP HCU HS HNO HQ
  go_wp2_with fail
  go_ret
  exact ⟨rfl, hb3⟩

set_option maxRecDepth 20000 in
set_option maxHeartbeats 3200000 in
theorem money_c1 (e : Ev) (w : World) (ht : Tab w) (h0 : chk 1 e = 0) (k2 : e.kind = 2) (q0 : 0 ≤ e.qty) (pr1 : 0 ≤ e.price) (pr2 : e.price ≤ 100000000) (hp : (Ev.steps (5 - (1 : Int)).toNat 1 e).price = 100 * e.price) (hc : (Ev.steps (5 - (1 : Int)).toNat 1 e).cur = e.cur) (hs : (Ev.steps (5 - (1 : Int)).toNat 1 e).stamp = e.stamp) (hn : (Ev.steps (5 - (1 : Int)).toNat 1 e).note = e.note) (hq : (Ev.steps (5 - (1 : Int)).toNat 1 e).qty = e.qty) :
    Calls Tryd.prog 4 #[.int .i64 1, e.val] w fun x w' => x = .returned (.bool true) ∧ Below w.heap.size w w' := by
  have hlt := ht.lt
  obtain ⟨X, hX⟩ : ∃ X, Ev.steps (5 - (1 : Int)).toNat 1 e = X := ⟨_, rfl⟩
  have ha := fun (wx : World) (htx : Tab wx) => chain_any 1 e wx htx
  obtain ⟨a1, a2⟩ := to_ok (f := 1) (t := 5) (e := e) (by omega) h0
  rw [a1, a2, hX] at ha
  rw [hX] at hp hc hs hn hq
  clear a1 a2 hX h0
  have ha0 := ha
  unfold pairV Ev.val Ev.cells at ha0
  have HA := Lib.hid ha0
  clear ha0
  clear ha
  have HP := Lib.hid hp
  have HCU := Lib.hid hc
  have HS := Lib.hid hs
  have HNO := Lib.hid hn
  have HQ := Lib.hid hq
  clear hp hc hs hn hq
  have hm1 : wrap64 e.price = e.price := w64 (by omega) (by omega)
  have hm2 : wrap64 (100 * e.price) = 100 * e.price := w64 (by omega) (by omega)
  have hm3 : wrap64 (1 * e.price) = e.price := by rw [Int.one_mul]; exact hm1
  clear pr1 pr2
  have kb : (e.kind != 2) = false := by rw [k2]; rfl
  clear k2
  unfold Ev.val Ev.cells
  go_enter Tryd.func4, Tryd.ntmps4
  have hb0 := below_made w (.cells e.cells 24)
  have f0_E := evB_new w e
  have hT0 := ht.below hb0
  go_upto_region 1 with (fail)
  rw [show (#[.int .i64 e.kind, .int .i64 e.order, .int .i64 e.item, .int .i64 e.qty, .int .i64 e.price, .int .i64 e.cur, .int .i64 e.tax, .string e.who, .int .i64 e.stamp, .string e.note] : Array Value) = e.cells from rfl]
  obtain ⟨wa, hwa⟩ : ∃ wa, w.alloc (.cells e.cells 24) = wa := ⟨_, rfl⟩
  rw [hwa] at hb0 f0_E hT0 ⊢
  have hzE : w.heap.size < wa.heap.size := f0_E.lt
  clear hwa ht
  go_wp2_with fail
  (with_reducible refine (head_any _ hT0).mono ?_)
  rintro x w1 ⟨rfl, hx1⟩
  have f1_E := f0_E.below hx1
  have hT1 := hT0.below hx1
  have hb1 := below_next hb0 hx1
  clear f0_E hT0 hb0 hx1
  go_wp2_with (with_reducible refine wpList_load_row rfl 24 (.tmp 3) rfl w.heap.size rfl _ #[.int .i64 e.kind, .int .i64 e.order, .int .i64 e.item, .int .i64 e.qty, .int .i64 e.price, .int .i64 e.cur, .int .i64 e.tax, .string e.who, .int .i64 e.stamp, .string e.note] (0, 0) _ f1_E.lit Tryd.underlying24 rfl (by with_unfolding_all exact info_ev) ?_)
  (with_reducible refine (HA.out _ hT1).mono ?_)
  rintro x w2 ⟨rfl, hx2⟩
  have f2_E := f1_E.below hx2
  have hT2 := hT1.below hx2
  have hb2 := below_next hb1 hx2
  clear f1_E hT1 hb1 hx2
  go_upto_region 4 with (fail)
  have hm3 := below_made w2 (.cells X.cells 24)
  have f3_E := f2_E.below hm3
  have hT3 := hT2.below hm3
  have hb3 := below_next hb2 hm3
  have f3_F := evB_new w2 X
  rw [show (#[.int .i64 X.kind, .int .i64 X.order, .int .i64 X.item, .int .i64 X.qty, .int .i64 X.price, .int .i64 X.cur, .int .i64 X.tax, .string X.who, .int .i64 X.stamp, .string X.note] : Array Value) = X.cells from rfl]
  obtain ⟨w3, hw3⟩ : ∃ w3, w2.alloc (.cells X.cells 24) = w3 := ⟨_, rfl⟩
  rw [hw3] at f3_E f3_F hT3 hb3 ⊢
  have hzF : w2.heap.size < w3.heap.size := f3_F.lt
  have hyEF : w.heap.size < w2.heap.size := f2_E.lt
  clear hw3 hm3 hT2 hb2 f2_E
  have cE0 : w3.cell? ⟨w.heap.size, 0, none⟩ = some (.int .i64 e.kind) := cell_blk f3_E.lit rfl
  have cE3 : w3.cell? ⟨w.heap.size, 3, none⟩ = some (.int .i64 e.qty) := cell_blk f3_E.lit rfl
  have cE4 : w3.cell? ⟨w.heap.size, 4, none⟩ = some (.int .i64 e.price) := cell_blk f3_E.lit rfl
  have cE5 : w3.cell? ⟨w.heap.size, 5, none⟩ = some (.int .i64 e.cur) := cell_blk f3_E.lit rfl
  have cE8 : w3.cell? ⟨w.heap.size, 8, none⟩ = some (.int .i64 e.stamp) := cell_blk f3_E.lit rfl
  have cE9 : w3.cell? ⟨w.heap.size, 9, none⟩ = some (.string e.note) := cell_blk f3_E.lit rfl
  have cF3 : w3.cell? ⟨w2.heap.size, 3, none⟩ = some (.int .i64 (e.qty)) := (cell_blk (v := .int .i64 X.qty) f3_F.lit rfl).trans (by rw [HQ.out])
  have cF4 : w3.cell? ⟨w2.heap.size, 4, none⟩ = some (.int .i64 (100 * e.price)) := (cell_blk (v := .int .i64 X.price) f3_F.lit rfl).trans (by rw [HP.out])
  have cF5 : w3.cell? ⟨w2.heap.size, 5, none⟩ = some (.int .i64 (e.cur)) := (cell_blk (v := .int .i64 X.cur) f3_F.lit rfl).trans (by rw [HCU.out])
  have cF8 : w3.cell? ⟨w2.heap.size, 8, none⟩ = some (.int .i64 (e.stamp)) := (cell_blk (v := .int .i64 X.stamp) f3_F.lit rfl).trans (by rw [HS.out])
  have cF9 : w3.cell? ⟨w2.heap.size, 9, none⟩ = some (.string (e.note)) := (cell_blk (v := .string X.note) f3_F.lit rfl).trans (by rw [HNO.out])
  clear f3_E f3_F HP HCU HS HNO HQ
  go_wp2_with fail
  go_ret
  exact ⟨rfl, hb3⟩

set_option maxRecDepth 20000 in
set_option maxHeartbeats 3200000 in
theorem money_d1 (e : Ev) (w : World) (ht : Tab w) (h0 : chk 1 e = 0) (k2 : e.kind ≠ 2) (q0 : 0 ≤ e.qty) (pr1 : 0 ≤ e.price) (pr2 : e.price ≤ 100000000) (hp : (Ev.steps (5 - (1 : Int)).toNat 1 e).price = 100 * e.price) (hc : (Ev.steps (5 - (1 : Int)).toNat 1 e).cur = e.cur) (hs : (Ev.steps (5 - (1 : Int)).toNat 1 e).stamp = e.stamp) (hn : (Ev.steps (5 - (1 : Int)).toNat 1 e).note = e.note) (hq : (Ev.steps (5 - (1 : Int)).toNat 1 e).qty = e.qty) :
    Calls Tryd.prog 4 #[.int .i64 1, e.val] w fun x w' => x = .returned (.bool true) ∧ Below w.heap.size w w' := by
  have hlt := ht.lt
  obtain ⟨X, hX⟩ : ∃ X, Ev.steps (5 - (1 : Int)).toNat 1 e = X := ⟨_, rfl⟩
  have ha := fun (wx : World) (htx : Tab wx) => chain_any 1 e wx htx
  obtain ⟨a1, a2⟩ := to_ok (f := 1) (t := 5) (e := e) (by omega) h0
  rw [a1, a2, hX] at ha
  rw [hX] at hp hc hs hn hq
  clear a1 a2 hX h0
  have ha0 := ha
  unfold pairV Ev.val Ev.cells at ha0
  have HA := Lib.hid ha0
  clear ha0
  clear ha
  have HP := Lib.hid hp
  have HCU := Lib.hid hc
  have HS := Lib.hid hs
  have HNO := Lib.hid hn
  have HQ := Lib.hid hq
  clear hp hc hs hn hq
  have hm1 : wrap64 e.price = e.price := w64 (by omega) (by omega)
  have hm2 : wrap64 (100 * e.price) = 100 * e.price := w64 (by omega) (by omega)
  have hm3 : wrap64 (1 * e.price) = e.price := by rw [Int.one_mul]; exact hm1
  clear pr1 pr2
  have kb : (e.kind != 2) = true := by simpa using k2
  have qn : ¬ e.qty < 0 := by omega
  clear k2
  unfold Ev.val Ev.cells
  go_enter Tryd.func4, Tryd.ntmps4
  have hb0 := below_made w (.cells e.cells 24)
  have f0_E := evB_new w e
  have hT0 := ht.below hb0
  go_upto_region 1 with (fail)
  rw [show (#[.int .i64 e.kind, .int .i64 e.order, .int .i64 e.item, .int .i64 e.qty, .int .i64 e.price, .int .i64 e.cur, .int .i64 e.tax, .string e.who, .int .i64 e.stamp, .string e.note] : Array Value) = e.cells from rfl]
  obtain ⟨wa, hwa⟩ : ∃ wa, w.alloc (.cells e.cells 24) = wa := ⟨_, rfl⟩
  rw [hwa] at hb0 f0_E hT0 ⊢
  have hzE : w.heap.size < wa.heap.size := f0_E.lt
  clear hwa ht
  go_wp2_with fail
  (with_reducible refine (head_any _ hT0).mono ?_)
  rintro x w1 ⟨rfl, hx1⟩
  have f1_E := f0_E.below hx1
  have hT1 := hT0.below hx1
  have hb1 := below_next hb0 hx1
  clear f0_E hT0 hb0 hx1
  go_wp2_with (with_reducible refine wpList_load_row rfl 24 (.tmp 3) rfl w.heap.size rfl _ #[.int .i64 e.kind, .int .i64 e.order, .int .i64 e.item, .int .i64 e.qty, .int .i64 e.price, .int .i64 e.cur, .int .i64 e.tax, .string e.who, .int .i64 e.stamp, .string e.note] (0, 0) _ f1_E.lit Tryd.underlying24 rfl (by with_unfolding_all exact info_ev) ?_)
  (with_reducible refine (HA.out _ hT1).mono ?_)
  rintro x w2 ⟨rfl, hx2⟩
  have f2_E := f1_E.below hx2
  have hT2 := hT1.below hx2
  have hb2 := below_next hb1 hx2
  clear f1_E hT1 hb1 hx2
  go_upto_region 4 with (fail)
  have hm3 := below_made w2 (.cells X.cells 24)
  have f3_E := f2_E.below hm3
  have hT3 := hT2.below hm3
  have hb3 := below_next hb2 hm3
  have f3_F := evB_new w2 X
  rw [show (#[.int .i64 X.kind, .int .i64 X.order, .int .i64 X.item, .int .i64 X.qty, .int .i64 X.price, .int .i64 X.cur, .int .i64 X.tax, .string X.who, .int .i64 X.stamp, .string X.note] : Array Value) = X.cells from rfl]
  obtain ⟨w3, hw3⟩ : ∃ w3, w2.alloc (.cells X.cells 24) = w3 := ⟨_, rfl⟩
  rw [hw3] at f3_E f3_F hT3 hb3 ⊢
  have hzF : w2.heap.size < w3.heap.size := f3_F.lt
  have hyEF : w.heap.size < w2.heap.size := f2_E.lt
  clear hw3 hm3 hT2 hb2 f2_E
  have cE0 : w3.cell? ⟨w.heap.size, 0, none⟩ = some (.int .i64 e.kind) := cell_blk f3_E.lit rfl
  have cE3 : w3.cell? ⟨w.heap.size, 3, none⟩ = some (.int .i64 e.qty) := cell_blk f3_E.lit rfl
  have cE4 : w3.cell? ⟨w.heap.size, 4, none⟩ = some (.int .i64 e.price) := cell_blk f3_E.lit rfl
  have cE5 : w3.cell? ⟨w.heap.size, 5, none⟩ = some (.int .i64 e.cur) := cell_blk f3_E.lit rfl
  have cE8 : w3.cell? ⟨w.heap.size, 8, none⟩ = some (.int .i64 e.stamp) := cell_blk f3_E.lit rfl
  have cE9 : w3.cell? ⟨w.heap.size, 9, none⟩ = some (.string e.note) := cell_blk f3_E.lit rfl
  have cF3 : w3.cell? ⟨w2.heap.size, 3, none⟩ = some (.int .i64 (e.qty)) := (cell_blk (v := .int .i64 X.qty) f3_F.lit rfl).trans (by rw [HQ.out])
  have cF4 : w3.cell? ⟨w2.heap.size, 4, none⟩ = some (.int .i64 (100 * e.price)) := (cell_blk (v := .int .i64 X.price) f3_F.lit rfl).trans (by rw [HP.out])
  have cF5 : w3.cell? ⟨w2.heap.size, 5, none⟩ = some (.int .i64 (e.cur)) := (cell_blk (v := .int .i64 X.cur) f3_F.lit rfl).trans (by rw [HCU.out])
  have cF8 : w3.cell? ⟨w2.heap.size, 8, none⟩ = some (.int .i64 (e.stamp)) := (cell_blk (v := .int .i64 X.stamp) f3_F.lit rfl).trans (by rw [HS.out])
  have cF9 : w3.cell? ⟨w2.heap.size, 9, none⟩ = some (.string (e.note)) := (cell_blk (v := .string X.note) f3_F.lit rfl).trans (by rw [HNO.out])
  clear f3_E f3_F HP HCU HS HNO HQ
  go_wp2_with fail
  go_ret
  exact ⟨rfl, hb3⟩

set_option maxRecDepth 20000 in
set_option maxHeartbeats 3200000 in
theorem money_a2 (e : Ev) (w : World) (ht : Tab w) (h0 : chk 2 e = 0) (k2 : e.kind ≠ 2) (q0 : e.qty < 0) (pr1 : 0 ≤ e.price) (pr2 : e.price ≤ 100000000) (hp : (Ev.steps (5 - (2 : Int)).toNat 2 e).price = e.price) (hc : (Ev.steps (5 - (2 : Int)).toNat 2 e).cur = e.cur) (hs : (Ev.steps (5 - (2 : Int)).toNat 2 e).stamp = e.stamp) (hn : (Ev.steps (5 - (2 : Int)).toNat 2 e).note = e.note) (hq : (Ev.steps (5 - (2 : Int)).toNat 2 e).qty = 0) :
    Calls Tryd.prog 4 #[.int .i64 2, e.val] w fun x w' => x = .returned (.bool true) ∧ Below w.heap.size w w' := by
  have hlt := ht.lt
  obtain ⟨X, hX⟩ : ∃ X, Ev.steps (5 - (2 : Int)).toNat 2 e = X := ⟨_, rfl⟩
  have ha := fun (wx : World) (htx : Tab wx) => chain_any 2 e wx htx
  obtain ⟨a1, a2⟩ := to_ok (f := 2) (t := 5) (e := e) (by omega) h0
  rw [a1, a2, hX] at ha
  rw [hX] at hp hc hs hn hq
  clear a1 a2 hX h0
  have ha0 := ha
  unfold pairV Ev.val Ev.cells at ha0
  have HA := Lib.hid ha0
  clear ha0
  clear ha
  have HP := Lib.hid hp
  have HCU := Lib.hid hc
  have HS := Lib.hid hs
  have HNO := Lib.hid hn
  have HQ := Lib.hid hq
  clear hp hc hs hn hq
  have hm1 : wrap64 e.price = e.price := w64 (by omega) (by omega)
  have hm2 : wrap64 (100 * e.price) = 100 * e.price := w64 (by omega) (by omega)
  have hm3 : wrap64 (1 * e.price) = e.price := by rw [Int.one_mul]; exact hm1
  clear pr1 pr2
  have kb : (e.kind != 2) = true := by simpa using k2
  clear k2
  unfold Ev.val Ev.cells
  go_enter Tryd.func4, Tryd.ntmps4
  have hb0 := below_made w (.cells e.cells 24)
  have f0_E := evB_new w e
  have hT0 := ht.below hb0
  go_upto_region 1 with (fail)
  rw [show (#[.int .i64 e.kind, .int .i64 e.order, .int .i64 e.item, .int .i64 e.qty, .int .i64 e.price, .int .i64 e.cur, .int .i64 e.tax, .string e.who, .int .i64 e.stamp, .string e.note] : Array Value) = e.cells from rfl]
  obtain ⟨wa, hwa⟩ : ∃ wa, w.alloc (.cells e.cells 24) = wa := ⟨_, rfl⟩
  rw [hwa] at hb0 f0_E hT0 ⊢
  have hzE : w.heap.size < wa.heap.size := f0_E.lt
  clear hwa ht
  go_wp2_with fail
  (with_reducible refine (head_any _ hT0).mono ?_)
  rintro x w1 ⟨rfl, hx1⟩
  have f1_E := f0_E.below hx1
  have hT1 := hT0.below hx1
  have hb1 := below_next hb0 hx1
  clear f0_E hT0 hb0 hx1
  go_wp2_with (with_reducible refine wpList_load_row rfl 24 (.tmp 3) rfl w.heap.size rfl _ #[.int .i64 e.kind, .int .i64 e.order, .int .i64 e.item, .int .i64 e.qty, .int .i64 e.price, .int .i64 e.cur, .int .i64 e.tax, .string e.who, .int .i64 e.stamp, .string e.note] (0, 0) _ f1_E.lit Tryd.underlying24 rfl (by with_unfolding_all exact info_ev) ?_)
  (with_reducible refine (HA.out _ hT1).mono ?_)
  rintro x w2 ⟨rfl, hx2⟩
  have f2_E := f1_E.below hx2
  have hT2 := hT1.below hx2
  have hb2 := below_next hb1 hx2
  clear f1_E hT1 hb1 hx2
  go_upto_region 4 with (fail)
  have hm3 := below_made w2 (.cells X.cells 24)
  have f3_E := f2_E.below hm3
  have hT3 := hT2.below hm3
  have hb3 := below_next hb2 hm3
  have f3_F := evB_new w2 X
  rw [show (#[.int .i64 X.kind, .int .i64 X.order, .int .i64 X.item, .int .i64 X.qty, .int .i64 X.price, .int .i64 X.cur, .int .i64 X.tax, .string X.who, .int .i64 X.stamp, .string X.note] : Array Value) = X.cells from rfl]
  obtain ⟨w3, hw3⟩ : ∃ w3, w2.alloc (.cells X.cells 24) = w3 := ⟨_, rfl⟩
  rw [hw3] at f3_E f3_F hT3 hb3 ⊢
  have hzF : w2.heap.size < w3.heap.size := f3_F.lt
  have hyEF : w.heap.size < w2.heap.size := f2_E.lt
  clear hw3 hm3 hT2 hb2 f2_E
  have cE0 : w3.cell? ⟨w.heap.size, 0, none⟩ = some (.int .i64 e.kind) := cell_blk f3_E.lit rfl
  have cE3 : w3.cell? ⟨w.heap.size, 3, none⟩ = some (.int .i64 e.qty) := cell_blk f3_E.lit rfl
  have cE4 : w3.cell? ⟨w.heap.size, 4, none⟩ = some (.int .i64 e.price) := cell_blk f3_E.lit rfl
  have cE5 : w3.cell? ⟨w.heap.size, 5, none⟩ = some (.int .i64 e.cur) := cell_blk f3_E.lit rfl
  have cE8 : w3.cell? ⟨w.heap.size, 8, none⟩ = some (.int .i64 e.stamp) := cell_blk f3_E.lit rfl
  have cE9 : w3.cell? ⟨w.heap.size, 9, none⟩ = some (.string e.note) := cell_blk f3_E.lit rfl
  have cF3 : w3.cell? ⟨w2.heap.size, 3, none⟩ = some (.int .i64 (0)) := (cell_blk (v := .int .i64 X.qty) f3_F.lit rfl).trans (by rw [HQ.out])
  have cF4 : w3.cell? ⟨w2.heap.size, 4, none⟩ = some (.int .i64 (e.price)) := (cell_blk (v := .int .i64 X.price) f3_F.lit rfl).trans (by rw [HP.out])
  have cF5 : w3.cell? ⟨w2.heap.size, 5, none⟩ = some (.int .i64 (e.cur)) := (cell_blk (v := .int .i64 X.cur) f3_F.lit rfl).trans (by rw [HCU.out])
  have cF8 : w3.cell? ⟨w2.heap.size, 8, none⟩ = some (.int .i64 (e.stamp)) := (cell_blk (v := .int .i64 X.stamp) f3_F.lit rfl).trans (by rw [HS.out])
  have cF9 : w3.cell? ⟨w2.heap.size, 9, none⟩ = some (.string (e.note)) := (cell_blk (v := .string X.note) f3_F.lit rfl).trans (by rw [HNO.out])
  clear f3_E f3_F HP HCU HS HNO HQ
  go_wp2_with fail
  go_ret
  exact ⟨rfl, hb3⟩

set_option maxRecDepth 20000 in
set_option maxHeartbeats 3200000 in
theorem money_b2 (e : Ev) (w : World) (ht : Tab w) (h0 : chk 2 e = 0) (k2 : e.kind = 2) (q0 : e.qty < 0) (q1 : -10000 ≤ e.qty) (pr1 : 0 ≤ e.price) (pr2 : e.price ≤ 100000000) (hp : (Ev.steps (5 - (2 : Int)).toNat 2 e).price = e.price) (hc : (Ev.steps (5 - (2 : Int)).toNat 2 e).cur = e.cur) (hs : (Ev.steps (5 - (2 : Int)).toNat 2 e).stamp = e.stamp) (hn : (Ev.steps (5 - (2 : Int)).toNat 2 e).note = e.note) (hq : (Ev.steps (5 - (2 : Int)).toNat 2 e).qty = -e.qty) :
    Calls Tryd.prog 4 #[.int .i64 2, e.val] w fun x w' => x = .returned (.bool true) ∧ Below w.heap.size w w' := by
  have hlt := ht.lt
  obtain ⟨X, hX⟩ : ∃ X, Ev.steps (5 - (2 : Int)).toNat 2 e = X := ⟨_, rfl⟩
  have ha := fun (wx : World) (htx : Tab wx) => chain_any 2 e wx htx
  obtain ⟨a1, a2⟩ := to_ok (f := 2) (t := 5) (e := e) (by omega) h0
  rw [a1, a2, hX] at ha
  rw [hX] at hp hc hs hn hq
  clear a1 a2 hX h0
  have ha0 := ha
  unfold pairV Ev.val Ev.cells at ha0
  have HA := Lib.hid ha0
  clear ha0
  clear ha
  have HP := Lib.hid hp
  have HCU := Lib.hid hc
  have HS := Lib.hid hs
  have HNO := Lib.hid hn
  have HQ := Lib.hid hq
  clear hp hc hs hn hq
  have hm1 : wrap64 e.price = e.price := w64 (by omega) (by omega)
  have hm2 : wrap64 (100 * e.price) = 100 * e.price := w64 (by omega) (by omega)
  have hm3 : wrap64 (1 * e.price) = e.price := by rw [Int.one_mul]; exact hm1
  clear pr1 pr2
  have kb : (e.kind != 2) = false := by rw [k2]; rfl
  have qb : (-e.qty == e.qty) = false := by rw [beq_eq_false_iff_ne]; omega
  have qw : wrap64 (-e.qty) = -e.qty := w64 (by omega) (by omega)
  clear k2 q1
  unfold Ev.val Ev.cells
  go_enter Tryd.func4, Tryd.ntmps4
  have hb0 := below_made w (.cells e.cells 24)
  have f0_E := evB_new w e
  have hT0 := ht.below hb0
  go_upto_region 1 with (fail)
  rw [show (#[.int .i64 e.kind, .int .i64 e.order, .int .i64 e.item, .int .i64 e.qty, .int .i64 e.price, .int .i64 e.cur, .int .i64 e.tax, .string e.who, .int .i64 e.stamp, .string e.note] : Array Value) = e.cells from rfl]
  obtain ⟨wa, hwa⟩ : ∃ wa, w.alloc (.cells e.cells 24) = wa := ⟨_, rfl⟩
  rw [hwa] at hb0 f0_E hT0 ⊢
  have hzE : w.heap.size < wa.heap.size := f0_E.lt
  clear hwa ht
  go_wp2_with fail
  (with_reducible refine (head_any _ hT0).mono ?_)
  rintro x w1 ⟨rfl, hx1⟩
  have f1_E := f0_E.below hx1
  have hT1 := hT0.below hx1
  have hb1 := below_next hb0 hx1
  clear f0_E hT0 hb0 hx1
  go_wp2_with (with_reducible refine wpList_load_row rfl 24 (.tmp 3) rfl w.heap.size rfl _ #[.int .i64 e.kind, .int .i64 e.order, .int .i64 e.item, .int .i64 e.qty, .int .i64 e.price, .int .i64 e.cur, .int .i64 e.tax, .string e.who, .int .i64 e.stamp, .string e.note] (0, 0) _ f1_E.lit Tryd.underlying24 rfl (by with_unfolding_all exact info_ev) ?_)
  (with_reducible refine (HA.out _ hT1).mono ?_)
  rintro x w2 ⟨rfl, hx2⟩
  have f2_E := f1_E.below hx2
  have hT2 := hT1.below hx2
  have hb2 := below_next hb1 hx2
  clear f1_E hT1 hb1 hx2
  go_upto_region 4 with (fail)
  have hm3 := below_made w2 (.cells X.cells 24)
  have f3_E := f2_E.below hm3
  have hT3 := hT2.below hm3
  have hb3 := below_next hb2 hm3
  have f3_F := evB_new w2 X
  rw [show (#[.int .i64 X.kind, .int .i64 X.order, .int .i64 X.item, .int .i64 X.qty, .int .i64 X.price, .int .i64 X.cur, .int .i64 X.tax, .string X.who, .int .i64 X.stamp, .string X.note] : Array Value) = X.cells from rfl]
  obtain ⟨w3, hw3⟩ : ∃ w3, w2.alloc (.cells X.cells 24) = w3 := ⟨_, rfl⟩
  rw [hw3] at f3_E f3_F hT3 hb3 ⊢
  have hzF : w2.heap.size < w3.heap.size := f3_F.lt
  have hyEF : w.heap.size < w2.heap.size := f2_E.lt
  clear hw3 hm3 hT2 hb2 f2_E
  have cE0 : w3.cell? ⟨w.heap.size, 0, none⟩ = some (.int .i64 e.kind) := cell_blk f3_E.lit rfl
  have cE3 : w3.cell? ⟨w.heap.size, 3, none⟩ = some (.int .i64 e.qty) := cell_blk f3_E.lit rfl
  have cE4 : w3.cell? ⟨w.heap.size, 4, none⟩ = some (.int .i64 e.price) := cell_blk f3_E.lit rfl
  have cE5 : w3.cell? ⟨w.heap.size, 5, none⟩ = some (.int .i64 e.cur) := cell_blk f3_E.lit rfl
  have cE8 : w3.cell? ⟨w.heap.size, 8, none⟩ = some (.int .i64 e.stamp) := cell_blk f3_E.lit rfl
  have cE9 : w3.cell? ⟨w.heap.size, 9, none⟩ = some (.string e.note) := cell_blk f3_E.lit rfl
  have cF3 : w3.cell? ⟨w2.heap.size, 3, none⟩ = some (.int .i64 (-e.qty)) := (cell_blk (v := .int .i64 X.qty) f3_F.lit rfl).trans (by rw [HQ.out])
  have cF4 : w3.cell? ⟨w2.heap.size, 4, none⟩ = some (.int .i64 (e.price)) := (cell_blk (v := .int .i64 X.price) f3_F.lit rfl).trans (by rw [HP.out])
  have cF5 : w3.cell? ⟨w2.heap.size, 5, none⟩ = some (.int .i64 (e.cur)) := (cell_blk (v := .int .i64 X.cur) f3_F.lit rfl).trans (by rw [HCU.out])
  have cF8 : w3.cell? ⟨w2.heap.size, 8, none⟩ = some (.int .i64 (e.stamp)) := (cell_blk (v := .int .i64 X.stamp) f3_F.lit rfl).trans (by rw [HS.out])
  have cF9 : w3.cell? ⟨w2.heap.size, 9, none⟩ = some (.string (e.note)) := (cell_blk (v := .string X.note) f3_F.lit rfl).trans (by rw [HNO.out])
  clear f3_E f3_F HP HCU HS HNO HQ
  go_wp2_with fail
  go_ret
  exact ⟨rfl, hb3⟩

set_option maxRecDepth 20000 in
set_option maxHeartbeats 3200000 in
theorem money_c2 (e : Ev) (w : World) (ht : Tab w) (h0 : chk 2 e = 0) (k2 : e.kind = 2) (q0 : 0 ≤ e.qty) (pr1 : 0 ≤ e.price) (pr2 : e.price ≤ 100000000) (hp : (Ev.steps (5 - (2 : Int)).toNat 2 e).price = e.price) (hc : (Ev.steps (5 - (2 : Int)).toNat 2 e).cur = e.cur) (hs : (Ev.steps (5 - (2 : Int)).toNat 2 e).stamp = e.stamp) (hn : (Ev.steps (5 - (2 : Int)).toNat 2 e).note = e.note) (hq : (Ev.steps (5 - (2 : Int)).toNat 2 e).qty = e.qty) :
    Calls Tryd.prog 4 #[.int .i64 2, e.val] w fun x w' => x = .returned (.bool true) ∧ Below w.heap.size w w' := by
  have hlt := ht.lt
  obtain ⟨X, hX⟩ : ∃ X, Ev.steps (5 - (2 : Int)).toNat 2 e = X := ⟨_, rfl⟩
  have ha := fun (wx : World) (htx : Tab wx) => chain_any 2 e wx htx
  obtain ⟨a1, a2⟩ := to_ok (f := 2) (t := 5) (e := e) (by omega) h0
  rw [a1, a2, hX] at ha
  rw [hX] at hp hc hs hn hq
  clear a1 a2 hX h0
  have ha0 := ha
  unfold pairV Ev.val Ev.cells at ha0
  have HA := Lib.hid ha0
  clear ha0
  clear ha
  have HP := Lib.hid hp
  have HCU := Lib.hid hc
  have HS := Lib.hid hs
  have HNO := Lib.hid hn
  have HQ := Lib.hid hq
  clear hp hc hs hn hq
  have hm1 : wrap64 e.price = e.price := w64 (by omega) (by omega)
  have hm2 : wrap64 (100 * e.price) = 100 * e.price := w64 (by omega) (by omega)
  have hm3 : wrap64 (1 * e.price) = e.price := by rw [Int.one_mul]; exact hm1
  clear pr1 pr2
  have kb : (e.kind != 2) = false := by rw [k2]; rfl
  clear k2
  unfold Ev.val Ev.cells
  go_enter Tryd.func4, Tryd.ntmps4
  have hb0 := below_made w (.cells e.cells 24)
  have f0_E := evB_new w e
  have hT0 := ht.below hb0
  go_upto_region 1 with (fail)
  rw [show (#[.int .i64 e.kind, .int .i64 e.order, .int .i64 e.item, .int .i64 e.qty, .int .i64 e.price, .int .i64 e.cur, .int .i64 e.tax, .string e.who, .int .i64 e.stamp, .string e.note] : Array Value) = e.cells from rfl]
  obtain ⟨wa, hwa⟩ : ∃ wa, w.alloc (.cells e.cells 24) = wa := ⟨_, rfl⟩
  rw [hwa] at hb0 f0_E hT0 ⊢
  have hzE : w.heap.size < wa.heap.size := f0_E.lt
  clear hwa ht
  go_wp2_with fail
  (with_reducible refine (head_any _ hT0).mono ?_)
  rintro x w1 ⟨rfl, hx1⟩
  have f1_E := f0_E.below hx1
  have hT1 := hT0.below hx1
  have hb1 := below_next hb0 hx1
  clear f0_E hT0 hb0 hx1
  go_wp2_with (with_reducible refine wpList_load_row rfl 24 (.tmp 3) rfl w.heap.size rfl _ #[.int .i64 e.kind, .int .i64 e.order, .int .i64 e.item, .int .i64 e.qty, .int .i64 e.price, .int .i64 e.cur, .int .i64 e.tax, .string e.who, .int .i64 e.stamp, .string e.note] (0, 0) _ f1_E.lit Tryd.underlying24 rfl (by with_unfolding_all exact info_ev) ?_)
  (with_reducible refine (HA.out _ hT1).mono ?_)
  rintro x w2 ⟨rfl, hx2⟩
  have f2_E := f1_E.below hx2
  have hT2 := hT1.below hx2
  have hb2 := below_next hb1 hx2
  clear f1_E hT1 hb1 hx2
  go_upto_region 4 with (fail)
  have hm3 := below_made w2 (.cells X.cells 24)
  have f3_E := f2_E.below hm3
  have hT3 := hT2.below hm3
  have hb3 := below_next hb2 hm3
  have f3_F := evB_new w2 X
  rw [show (#[.int .i64 X.kind, .int .i64 X.order, .int .i64 X.item, .int .i64 X.qty, .int .i64 X.price, .int .i64 X.cur, .int .i64 X.tax, .string X.who, .int .i64 X.stamp, .string X.note] : Array Value) = X.cells from rfl]
  obtain ⟨w3, hw3⟩ : ∃ w3, w2.alloc (.cells X.cells 24) = w3 := ⟨_, rfl⟩
  rw [hw3] at f3_E f3_F hT3 hb3 ⊢
  have hzF : w2.heap.size < w3.heap.size := f3_F.lt
  have hyEF : w.heap.size < w2.heap.size := f2_E.lt
  clear hw3 hm3 hT2 hb2 f2_E
  have cE0 : w3.cell? ⟨w.heap.size, 0, none⟩ = some (.int .i64 e.kind) := cell_blk f3_E.lit rfl
  have cE3 : w3.cell? ⟨w.heap.size, 3, none⟩ = some (.int .i64 e.qty) := cell_blk f3_E.lit rfl
  have cE4 : w3.cell? ⟨w.heap.size, 4, none⟩ = some (.int .i64 e.price) := cell_blk f3_E.lit rfl
  have cE5 : w3.cell? ⟨w.heap.size, 5, none⟩ = some (.int .i64 e.cur) := cell_blk f3_E.lit rfl
  have cE8 : w3.cell? ⟨w.heap.size, 8, none⟩ = some (.int .i64 e.stamp) := cell_blk f3_E.lit rfl
  have cE9 : w3.cell? ⟨w.heap.size, 9, none⟩ = some (.string e.note) := cell_blk f3_E.lit rfl
  have cF3 : w3.cell? ⟨w2.heap.size, 3, none⟩ = some (.int .i64 (e.qty)) := (cell_blk (v := .int .i64 X.qty) f3_F.lit rfl).trans (by rw [HQ.out])
  have cF4 : w3.cell? ⟨w2.heap.size, 4, none⟩ = some (.int .i64 (e.price)) := (cell_blk (v := .int .i64 X.price) f3_F.lit rfl).trans (by rw [HP.out])
  have cF5 : w3.cell? ⟨w2.heap.size, 5, none⟩ = some (.int .i64 (e.cur)) := (cell_blk (v := .int .i64 X.cur) f3_F.lit rfl).trans (by rw [HCU.out])
  have cF8 : w3.cell? ⟨w2.heap.size, 8, none⟩ = some (.int .i64 (e.stamp)) := (cell_blk (v := .int .i64 X.stamp) f3_F.lit rfl).trans (by rw [HS.out])
  have cF9 : w3.cell? ⟨w2.heap.size, 9, none⟩ = some (.string (e.note)) := (cell_blk (v := .string X.note) f3_F.lit rfl).trans (by rw [HNO.out])
  clear f3_E f3_F HP HCU HS HNO HQ
  go_wp2_with fail
  go_ret
  exact ⟨rfl, hb3⟩

set_option maxRecDepth 20000 in
set_option maxHeartbeats 3200000 in
theorem money_d2 (e : Ev) (w : World) (ht : Tab w) (h0 : chk 2 e = 0) (k2 : e.kind ≠ 2) (q0 : 0 ≤ e.qty) (pr1 : 0 ≤ e.price) (pr2 : e.price ≤ 100000000) (hp : (Ev.steps (5 - (2 : Int)).toNat 2 e).price = e.price) (hc : (Ev.steps (5 - (2 : Int)).toNat 2 e).cur = e.cur) (hs : (Ev.steps (5 - (2 : Int)).toNat 2 e).stamp = e.stamp) (hn : (Ev.steps (5 - (2 : Int)).toNat 2 e).note = e.note) (hq : (Ev.steps (5 - (2 : Int)).toNat 2 e).qty = e.qty) :
    Calls Tryd.prog 4 #[.int .i64 2, e.val] w fun x w' => x = .returned (.bool true) ∧ Below w.heap.size w w' := by
  have hlt := ht.lt
  obtain ⟨X, hX⟩ : ∃ X, Ev.steps (5 - (2 : Int)).toNat 2 e = X := ⟨_, rfl⟩
  have ha := fun (wx : World) (htx : Tab wx) => chain_any 2 e wx htx
  obtain ⟨a1, a2⟩ := to_ok (f := 2) (t := 5) (e := e) (by omega) h0
  rw [a1, a2, hX] at ha
  rw [hX] at hp hc hs hn hq
  clear a1 a2 hX h0
  have ha0 := ha
  unfold pairV Ev.val Ev.cells at ha0
  have HA := Lib.hid ha0
  clear ha0
  clear ha
  have HP := Lib.hid hp
  have HCU := Lib.hid hc
  have HS := Lib.hid hs
  have HNO := Lib.hid hn
  have HQ := Lib.hid hq
  clear hp hc hs hn hq
  have hm1 : wrap64 e.price = e.price := w64 (by omega) (by omega)
  have hm2 : wrap64 (100 * e.price) = 100 * e.price := w64 (by omega) (by omega)
  have hm3 : wrap64 (1 * e.price) = e.price := by rw [Int.one_mul]; exact hm1
  clear pr1 pr2
  have kb : (e.kind != 2) = true := by simpa using k2
  have qn : ¬ e.qty < 0 := by omega
  clear k2
  unfold Ev.val Ev.cells
  go_enter Tryd.func4, Tryd.ntmps4
  have hb0 := below_made w (.cells e.cells 24)
  have f0_E := evB_new w e
  have hT0 := ht.below hb0
  go_upto_region 1 with (fail)
  rw [show (#[.int .i64 e.kind, .int .i64 e.order, .int .i64 e.item, .int .i64 e.qty, .int .i64 e.price, .int .i64 e.cur, .int .i64 e.tax, .string e.who, .int .i64 e.stamp, .string e.note] : Array Value) = e.cells from rfl]
  obtain ⟨wa, hwa⟩ : ∃ wa, w.alloc (.cells e.cells 24) = wa := ⟨_, rfl⟩
  rw [hwa] at hb0 f0_E hT0 ⊢
  have hzE : w.heap.size < wa.heap.size := f0_E.lt
  clear hwa ht
  go_wp2_with fail
  (with_reducible refine (head_any _ hT0).mono ?_)
  rintro x w1 ⟨rfl, hx1⟩
  have f1_E := f0_E.below hx1
  have hT1 := hT0.below hx1
  have hb1 := below_next hb0 hx1
  clear f0_E hT0 hb0 hx1
  go_wp2_with (with_reducible refine wpList_load_row rfl 24 (.tmp 3) rfl w.heap.size rfl _ #[.int .i64 e.kind, .int .i64 e.order, .int .i64 e.item, .int .i64 e.qty, .int .i64 e.price, .int .i64 e.cur, .int .i64 e.tax, .string e.who, .int .i64 e.stamp, .string e.note] (0, 0) _ f1_E.lit Tryd.underlying24 rfl (by with_unfolding_all exact info_ev) ?_)
  (with_reducible refine (HA.out _ hT1).mono ?_)
  rintro x w2 ⟨rfl, hx2⟩
  have f2_E := f1_E.below hx2
  have hT2 := hT1.below hx2
  have hb2 := below_next hb1 hx2
  clear f1_E hT1 hb1 hx2
  go_upto_region 4 with (fail)
  have hm3 := below_made w2 (.cells X.cells 24)
  have f3_E := f2_E.below hm3
  have hT3 := hT2.below hm3
  have hb3 := below_next hb2 hm3
  have f3_F := evB_new w2 X
  rw [show (#[.int .i64 X.kind, .int .i64 X.order, .int .i64 X.item, .int .i64 X.qty, .int .i64 X.price, .int .i64 X.cur, .int .i64 X.tax, .string X.who, .int .i64 X.stamp, .string X.note] : Array Value) = X.cells from rfl]
  obtain ⟨w3, hw3⟩ : ∃ w3, w2.alloc (.cells X.cells 24) = w3 := ⟨_, rfl⟩
  rw [hw3] at f3_E f3_F hT3 hb3 ⊢
  have hzF : w2.heap.size < w3.heap.size := f3_F.lt
  have hyEF : w.heap.size < w2.heap.size := f2_E.lt
  clear hw3 hm3 hT2 hb2 f2_E
  have cE0 : w3.cell? ⟨w.heap.size, 0, none⟩ = some (.int .i64 e.kind) := cell_blk f3_E.lit rfl
  have cE3 : w3.cell? ⟨w.heap.size, 3, none⟩ = some (.int .i64 e.qty) := cell_blk f3_E.lit rfl
  have cE4 : w3.cell? ⟨w.heap.size, 4, none⟩ = some (.int .i64 e.price) := cell_blk f3_E.lit rfl
  have cE5 : w3.cell? ⟨w.heap.size, 5, none⟩ = some (.int .i64 e.cur) := cell_blk f3_E.lit rfl
  have cE8 : w3.cell? ⟨w.heap.size, 8, none⟩ = some (.int .i64 e.stamp) := cell_blk f3_E.lit rfl
  have cE9 : w3.cell? ⟨w.heap.size, 9, none⟩ = some (.string e.note) := cell_blk f3_E.lit rfl
  have cF3 : w3.cell? ⟨w2.heap.size, 3, none⟩ = some (.int .i64 (e.qty)) := (cell_blk (v := .int .i64 X.qty) f3_F.lit rfl).trans (by rw [HQ.out])
  have cF4 : w3.cell? ⟨w2.heap.size, 4, none⟩ = some (.int .i64 (e.price)) := (cell_blk (v := .int .i64 X.price) f3_F.lit rfl).trans (by rw [HP.out])
  have cF5 : w3.cell? ⟨w2.heap.size, 5, none⟩ = some (.int .i64 (e.cur)) := (cell_blk (v := .int .i64 X.cur) f3_F.lit rfl).trans (by rw [HCU.out])
  have cF8 : w3.cell? ⟨w2.heap.size, 8, none⟩ = some (.int .i64 (e.stamp)) := (cell_blk (v := .int .i64 X.stamp) f3_F.lit rfl).trans (by rw [HS.out])
  have cF9 : w3.cell? ⟨w2.heap.size, 9, none⟩ = some (.string (e.note)) := (cell_blk (v := .string X.note) f3_F.lit rfl).trans (by rw [HNO.out])
  clear f3_E f3_F HP HCU HS HNO HQ
  go_wp2_with fail
  go_ret
  exact ⟨rfl, hb3⟩

set_option maxRecDepth 20000 in
set_option maxHeartbeats 3200000 in
theorem money_e (v : Int) (e : Ev) (w : World) (ht : Tab w) (h0 : chk v e = 0) (v3 : 3 ≤ v) (v5 : v ≤ 5) (pr1 : 0 ≤ e.price) (pr2 : e.price ≤ 100000000) (hp : (Ev.steps (5 - (v : Int)).toNat v e).price = e.price) (hc : (Ev.steps (5 - (v : Int)).toNat v e).cur = e.cur) (hs : (Ev.steps (5 - (v : Int)).toNat v e).stamp = e.stamp) (hn : (Ev.steps (5 - (v : Int)).toNat v e).note = e.note) (hq : (Ev.steps (5 - (v : Int)).toNat v e).qty = e.qty) :
    Calls Tryd.prog 4 #[.int .i64 v, e.val] w fun x w' => x = .returned (.bool true) ∧ Below w.heap.size w w' := by
  have hlt := ht.lt
  obtain ⟨X, hX⟩ : ∃ X, Ev.steps (5 - (v : Int)).toNat v e = X := ⟨_, rfl⟩
  have ha := fun (wx : World) (htx : Tab wx) => chain_any v e wx htx
  obtain ⟨a1, a2⟩ := to_ok (f := v) (t := 5) (e := e) (by omega) h0
  rw [a1, a2, hX] at ha
  rw [hX] at hp hc hs hn hq
  clear a1 a2 hX h0
  have ha0 := ha
  unfold pairV Ev.val Ev.cells at ha0
  have HA := Lib.hid ha0
  clear ha0
  clear ha
  have HP := Lib.hid hp
  have HCU := Lib.hid hc
  have HS := Lib.hid hs
  have HNO := Lib.hid hn
  have HQ := Lib.hid hq
  clear hp hc hs hn hq
  have hm1 : wrap64 e.price = e.price := w64 (by omega) (by omega)
  have hm2 : wrap64 (100 * e.price) = 100 * e.price := w64 (by omega) (by omega)
  have hm3 : wrap64 (1 * e.price) = e.price := by rw [Int.one_mul]; exact hm1
  clear pr1 pr2
  have vb : (v == 1) = false := by rw [beq_eq_false_iff_ne]; omega
  have vl : ¬ v < 3 := by omega
  clear v3 v5
  unfold Ev.val Ev.cells
  go_enter Tryd.func4, Tryd.ntmps4
  have hb0 := below_made w (.cells e.cells 24)
  have f0_E := evB_new w e
  have hT0 := ht.below hb0
  go_upto_region 1 with (fail)
  rw [show (#[.int .i64 e.kind, .int .i64 e.order, .int .i64 e.item, .int .i64 e.qty, .int .i64 e.price, .int .i64 e.cur, .int .i64 e.tax, .string e.who, .int .i64 e.stamp, .string e.note] : Array Value) = e.cells from rfl]
  obtain ⟨wa, hwa⟩ : ∃ wa, w.alloc (.cells e.cells 24) = wa := ⟨_, rfl⟩
  rw [hwa] at hb0 f0_E hT0 ⊢
  have hzE : w.heap.size < wa.heap.size := f0_E.lt
  clear hwa ht
  go_wp2_with fail
  (with_reducible refine (head_any _ hT0).mono ?_)
  rintro x w1 ⟨rfl, hx1⟩
  have f1_E := f0_E.below hx1
  have hT1 := hT0.below hx1
  have hb1 := below_next hb0 hx1
  clear f0_E hT0 hb0 hx1
  go_wp2_with (with_reducible refine wpList_load_row rfl 24 (.tmp 3) rfl w.heap.size rfl _ #[.int .i64 e.kind, .int .i64 e.order, .int .i64 e.item, .int .i64 e.qty, .int .i64 e.price, .int .i64 e.cur, .int .i64 e.tax, .string e.who, .int .i64 e.stamp, .string e.note] (0, 0) _ f1_E.lit Tryd.underlying24 rfl (by with_unfolding_all exact info_ev) ?_)
  (with_reducible refine (HA.out _ hT1).mono ?_)
  rintro x w2 ⟨rfl, hx2⟩
  have f2_E := f1_E.below hx2
  have hT2 := hT1.below hx2
  have hb2 := below_next hb1 hx2
  clear f1_E hT1 hb1 hx2
  go_upto_region 4 with (fail)
  have hm3 := below_made w2 (.cells X.cells 24)
  have f3_E := f2_E.below hm3
  have hT3 := hT2.below hm3
  have hb3 := below_next hb2 hm3
  have f3_F := evB_new w2 X
  rw [show (#[.int .i64 X.kind, .int .i64 X.order, .int .i64 X.item, .int .i64 X.qty, .int .i64 X.price, .int .i64 X.cur, .int .i64 X.tax, .string X.who, .int .i64 X.stamp, .string X.note] : Array Value) = X.cells from rfl]
  obtain ⟨w3, hw3⟩ : ∃ w3, w2.alloc (.cells X.cells 24) = w3 := ⟨_, rfl⟩
  rw [hw3] at f3_E f3_F hT3 hb3 ⊢
  have hzF : w2.heap.size < w3.heap.size := f3_F.lt
  have hyEF : w.heap.size < w2.heap.size := f2_E.lt
  clear hw3 hm3 hT2 hb2 f2_E
  have cE0 : w3.cell? ⟨w.heap.size, 0, none⟩ = some (.int .i64 e.kind) := cell_blk f3_E.lit rfl
  have cE3 : w3.cell? ⟨w.heap.size, 3, none⟩ = some (.int .i64 e.qty) := cell_blk f3_E.lit rfl
  have cE4 : w3.cell? ⟨w.heap.size, 4, none⟩ = some (.int .i64 e.price) := cell_blk f3_E.lit rfl
  have cE5 : w3.cell? ⟨w.heap.size, 5, none⟩ = some (.int .i64 e.cur) := cell_blk f3_E.lit rfl
  have cE8 : w3.cell? ⟨w.heap.size, 8, none⟩ = some (.int .i64 e.stamp) := cell_blk f3_E.lit rfl
  have cE9 : w3.cell? ⟨w.heap.size, 9, none⟩ = some (.string e.note) := cell_blk f3_E.lit rfl
  have cF3 : w3.cell? ⟨w2.heap.size, 3, none⟩ = some (.int .i64 (e.qty)) := (cell_blk (v := .int .i64 X.qty) f3_F.lit rfl).trans (by rw [HQ.out])
  have cF4 : w3.cell? ⟨w2.heap.size, 4, none⟩ = some (.int .i64 (e.price)) := (cell_blk (v := .int .i64 X.price) f3_F.lit rfl).trans (by rw [HP.out])
  have cF5 : w3.cell? ⟨w2.heap.size, 5, none⟩ = some (.int .i64 (e.cur)) := (cell_blk (v := .int .i64 X.cur) f3_F.lit rfl).trans (by rw [HCU.out])
  have cF8 : w3.cell? ⟨w2.heap.size, 8, none⟩ = some (.int .i64 (e.stamp)) := (cell_blk (v := .int .i64 X.stamp) f3_F.lit rfl).trans (by rw [HS.out])
  have cF9 : w3.cell? ⟨w2.heap.size, 9, none⟩ = some (.string (e.note)) := (cell_blk (v := .string X.note) f3_F.lit rfl).trans (by rw [HNO.out])
  clear f3_E f3_F HP HCU HS HNO HQ
  go_wp2_with fail
  go_ret
  exact ⟨rfl, hb3⟩

set_option maxRecDepth 20000 in
set_option maxHeartbeats 3200000 in
theorem money_no (v : Int) (e : Ev) (w : World) (ht : Tab w) (h0 : toR v 5 e ≠ 0) :
    Calls Tryd.prog 4 #[.int .i64 v, e.val] w fun x w' => x = .returned (.bool true) ∧ Below w.heap.size w w' := by
  have hlt := ht.lt
  obtain ⟨X, hX⟩ : ∃ X, toE v 5 e = X := ⟨_, rfl⟩
  have ha := fun (wx : World) (htx : Tab wx) => chain_any v e wx htx
  obtain ⟨r, hr⟩ : ∃ r, toR v 5 e = r := ⟨_, rfl⟩
  rw [hX, hr] at ha
  rw [hr] at h0
  have hrb : (r != 0) = true := by simpa using h0
  clear hX hr h0
  have ha0 := ha
  unfold pairV Ev.val Ev.cells at ha0
  have HA := Lib.hid ha0
  clear ha0
  clear ha
  unfold Ev.val Ev.cells
  go_enter Tryd.func4, Tryd.ntmps4
  have hb0 := below_made w (.cells e.cells 24)
  have f0_E := evB_new w e
  have hT0 := ht.below hb0
  go_upto_region 1 with (fail)
  rw [show (#[.int .i64 e.kind, .int .i64 e.order, .int .i64 e.item, .int .i64 e.qty, .int .i64 e.price, .int .i64 e.cur, .int .i64 e.tax, .string e.who, .int .i64 e.stamp, .string e.note] : Array Value) = e.cells from rfl]
  obtain ⟨wa, hwa⟩ : ∃ wa, w.alloc (.cells e.cells 24) = wa := ⟨_, rfl⟩
  rw [hwa] at hb0 f0_E hT0 ⊢
  have hzE : w.heap.size < wa.heap.size := f0_E.lt
  clear hwa ht
  go_wp2_with fail
  (with_reducible refine (head_any _ hT0).mono ?_)
  rintro x w1 ⟨rfl, hx1⟩
  have f1_E := f0_E.below hx1
  have hT1 := hT0.below hx1
  have hb1 := below_next hb0 hx1
  clear f0_E hT0 hb0 hx1
  go_wp2_with (with_reducible refine wpList_load_row rfl 24 (.tmp 3) rfl w.heap.size rfl _ #[.int .i64 e.kind, .int .i64 e.order, .int .i64 e.item, .int .i64 e.qty, .int .i64 e.price, .int .i64 e.cur, .int .i64 e.tax, .string e.who, .int .i64 e.stamp, .string e.note] (0, 0) _ f1_E.lit Tryd.underlying24 rfl (by with_unfolding_all exact info_ev) ?_)
  (with_reducible refine (HA.out _ hT1).mono ?_)
  rintro x w2 ⟨rfl, hx2⟩
  have f2_E := f1_E.below hx2
  have hT2 := hT1.below hx2
  have hb2 := below_next hb1 hx2
  clear f1_E hT1 hb1 hx2
  go_upto_region 4 with (fail)
  have hm3 := below_made w2 (.cells X.cells 24)
  have f3_E := f2_E.below hm3
  have hT3 := hT2.below hm3
  have hb3 := below_next hb2 hm3
  have f3_F := evB_new w2 X
  rw [show (#[.int .i64 X.kind, .int .i64 X.order, .int .i64 X.item, .int .i64 X.qty, .int .i64 X.price, .int .i64 X.cur, .int .i64 X.tax, .string X.who, .int .i64 X.stamp, .string X.note] : Array Value) = X.cells from rfl]
  obtain ⟨w3, hw3⟩ : ∃ w3, w2.alloc (.cells X.cells 24) = w3 := ⟨_, rfl⟩
  rw [hw3] at f3_E f3_F hT3 hb3 ⊢
  have hzF : w2.heap.size < w3.heap.size := f3_F.lt
  have hyEF : w.heap.size < w2.heap.size := f2_E.lt
  clear hw3 hm3 hT2 hb2 f2_E
  go_wp2_with fail
  go_ret
  exact ⟨rfl, hb3⟩

theorem steps_qty1 (e : Ev) : (Ev.steps (5 - 1 : Int).toNat 1 e).qty = if e.qty < 0 then (if e.kind = 2 then -e.qty else 0) else e.qty := rfl
theorem steps_qty2 (e : Ev) : (Ev.steps (5 - 2 : Int).toNat 2 e).qty = if e.qty < 0 then (if e.kind = 2 then -e.qty else 0) else e.qty := rfl

theorem money_walk (v : Int) (ev : Value) (e : Ev) (w : World) (v0 : -9223372036854775808 ≤ v) (v1 : v ≤ 9223372036854775807) (he : ev = e.val ∧ e.ok) (ht : Tab w) :
    Calls Tryd.prog 4 #[.int .i64 v, ev] w fun x w' => x = .returned (.bool true) ∧ Below w.heap.size w w' := by
  obtain ⟨rfl, -⟩ := he
  by_cases h0 : chk v e = 0
  · have hR := right_of h0
    have hp := hR.p
    have hq := hR.q
    have hc : v = 1 ∨ v = 2 ∨ 3 ≤ v := by have := hR.v1; omega
    rcases hc with rfl | rfl | h3
    · have hm : e.price * 100 = 100 * e.price := Int.mul_comm _ _
      by_cases q0 : e.qty < 0
      · by_cases k2 : e.kind = 2
        · exact money_b1 e w ht h0 k2 q0 hq.1 hp.1 hp.2 hm rfl rfl rfl (by rw [steps_qty1, if_pos q0, if_pos k2])
        · exact money_a1 e w ht h0 k2 q0 hp.1 hp.2 hm rfl rfl rfl (by rw [steps_qty1, if_pos q0, if_neg k2])
      · by_cases k2 : e.kind = 2
        · exact money_c1 e w ht h0 k2 (by omega) hp.1 hp.2 hm rfl rfl rfl (by rw [steps_qty1, if_neg q0])
        · exact money_d1 e w ht h0 k2 (by omega) hp.1 hp.2 hm rfl rfl rfl (by rw [steps_qty1, if_neg q0])
    · by_cases q0 : e.qty < 0
      · by_cases k2 : e.kind = 2
        · exact money_b2 e w ht h0 k2 q0 hq.1 hp.1 hp.2 rfl rfl rfl rfl (by rw [steps_qty2, if_pos q0, if_pos k2])
        · exact money_a2 e w ht h0 k2 q0 hp.1 hp.2 rfl rfl rfl rfl (by rw [steps_qty2, if_pos q0, if_neg k2])
      · by_cases k2 : e.kind = 2
        · exact money_c2 e w ht h0 k2 (by omega) hp.1 hp.2 rfl rfl rfl rfl (by rw [steps_qty2, if_neg q0])
        · exact money_d2 e w ht h0 k2 (by omega) hp.1 hp.2 rfl rfl rfl rfl (by rw [steps_qty2, if_neg q0])
    · have hv5 := hR.v5
      have hx : (Ev.steps (5 - v).toNat v e).price = e.price ∧ (Ev.steps (5 - v).toNat v e).cur = e.cur ∧ (Ev.steps (5 - v).toNat v e).stamp = e.stamp ∧ (Ev.steps (5 - v).toNat v e).note = e.note ∧ (Ev.steps (5 - v).toNat v e).qty = e.qty := by
        have hc : v = 3 ∨ v = 4 ∨ v = 5 := by omega
        rcases hc with rfl | rfl | rfl <;> exact ⟨rfl, rfl, rfl, rfl, rfl⟩
      obtain ⟨x1, x2, x3, x4, x5⟩ := hx
      exact money_e v e w ht h0 h3 hv5 hp.1 hp.2 x1 x2 x3 x4 x5
  · refine money_no v e w ht ?_
    by_cases h : 5 < v
    · rw [(to_none (t := 5) (e := e) (.inr h)).2]; decide
    · rw [(to_chk (t := 5) (e := e) (by omega) h0).2]; exact h0
end Go.Proofs.YtfpmlmohmmccjaaDoor
