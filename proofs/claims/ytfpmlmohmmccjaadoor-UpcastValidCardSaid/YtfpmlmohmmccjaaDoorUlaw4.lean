/-
  The walk of UpcastValid, printed by genulaw2.py. Condition: the program's table of taxes holds what its text lays.
-/
import Derived.Test.YtfpmlmohmmccjaaDoorUhead
namespace Go.Proofs.YtfpmlmohmmccjaaDoor
open Go.RowKit
set_option linter.unusedVariables false

theorem EvB.zero2 {w : World} {b : Nat} (h : EvB w b zeroEv) : w.heap[b]? = some (.cells #[.int .i64 0, .int .i64 0, .int .i64 0, .int .i64 0, .int .i64 0, .int .i64 0, .int .i64 0, .string ⟨#[]⟩, .int .i64 0, .string ⟨#[]⟩] 24 (0, 0)) := h
theorem up_order (v : Int) (e : Ev) : (e.up v).order = e.order := by
  unfold Ev.up
  by_cases h1 : v = 1
  · rw [if_pos h1]; rfl
  rw [if_neg h1]
  by_cases h2 : v = 2
  · rw [if_pos h2]; rfl
  rw [if_neg h2]
  by_cases h3 : v = 3
  · rw [if_pos h3]; rfl
  rw [if_neg h3]
  by_cases h4 : v = 4
  · rw [if_pos h4]; rfl
  rw [if_neg h4]
theorem steps_order (k : Nat) (v : Int) (e : Ev) : (Ev.steps k v e).order = e.order := by
  induction k generalizing v e with
  | zero => rfl
  | succ k ih => exact (ih (v + 1) (e.up v)).trans (up_order v e)

set_option maxRecDepth 20000 in
set_option maxHeartbeats 3200000 in
theorem valid_no (v : Int) (e : Ev) (w : World) (ht : Tab w) (h0 : chk v e ≠ 0) :
    Calls Tryd.prog 6 #[.int .i64 v, e.val] w fun x w' => x = .returned (.bool true) ∧ Below w.heap.size w w' := by
  have hlt := ht.lt
  obtain ⟨r, hr⟩ : ∃ r, chk v e = r := ⟨_, rfl⟩
  have ha := fun (wx : World) (htx : Tab wx) => chain_any v e wx htx
  have hk := fun wx => chk_any v e wx
  unfold GivesC at hk
  have hx : toE v 5 e = zeroEv ∧ toR v 5 e = r := by
    by_cases h : 5 < v
    · obtain ⟨a, b⟩ := to_none (t := 5) (e := e) (.inr h)
      exact ⟨a, by rw [b, ← hr, chk_none (.inr h)]⟩
    · obtain ⟨a, b⟩ := to_chk (t := 5) (e := e) (by omega) h0
      exact ⟨a, by rw [b, hr]⟩
  rw [hx.1, hx.2] at ha
  rw [hr] at hk h0
  have hrb : (r != 0) = true := by simpa using h0
  clear hx h0 hr
  have ha0 := ha
  unfold pairV Ev.val Ev.cells at ha0
  have HA := Lib.hid ha0
  clear ha0
  have hk0 := hk
  unfold pairV Ev.val Ev.cells at hk0
  have HK := Lib.hid hk0
  clear hk0
  clear ha hk
  unfold Ev.val Ev.cells
  go_enter Tryd.func6, Tryd.ntmps6
  have hb0 := below_made w (.cells e.cells 24)
  have f0_E := evB_new w e
  have hT0 := ht.below hb0
  go_upto_region 1 with (fail)
  rw [show (#[.int .i64 e.kind, .int .i64 e.order, .int .i64 e.item, .int .i64 e.qty, .int .i64 e.price, .int .i64 e.cur, .int .i64 e.tax, .string e.who, .int .i64 e.stamp, .string e.note] : Array Value) = e.cells from rfl]
  obtain ⟨wa, hwa⟩ : ∃ wa, w.alloc (.cells e.cells 24) = wa := ⟨_, rfl⟩
  rw [hwa] at hb0 f0_E hT0 ⊢
  have hzE : w.heap.size < wa.heap.size := f0_E.lt
  clear hwa ht
  go_wp2_with fail
  (with_reducible refine (head_any _ hT0).mono ?_)
  rintro x w1 ⟨rfl, hx1⟩
  have f1_E := f0_E.below hx1
  have hT1 := hT0.below hx1
  have hb1 := below_next hb0 hx1
  clear f0_E hT0 hb0 hx1
  go_wp2_with (with_reducible refine wpList_load_row rfl 24 (.tmp 3) rfl w.heap.size rfl _ #[.int .i64 e.kind, .int .i64 e.order, .int .i64 e.item, .int .i64 e.qty, .int .i64 e.price, .int .i64 e.cur, .int .i64 e.tax, .string e.who, .int .i64 e.stamp, .string e.note] (0, 0) _ f1_E.lit Tryd.underlying24 rfl (by with_unfolding_all exact info_ev) ?_)
  (with_reducible refine (HK.out _).mono ?_)
  rintro x w2 ⟨rfl, hx2⟩
  have f2_E := f1_E.below hx2
  have hT2 := hT1.below hx2
  have hb2 := below_next hb1 hx2
  clear f1_E hT1 hb1 hx2
  go_wp2_with (with_reducible refine wpList_load_row rfl 24 (.tmp 3) rfl w.heap.size rfl _ #[.int .i64 e.kind, .int .i64 e.order, .int .i64 e.item, .int .i64 e.qty, .int .i64 e.price, .int .i64 e.cur, .int .i64 e.tax, .string e.who, .int .i64 e.stamp, .string e.note] (0, 0) _ f2_E.lit Tryd.underlying24 rfl (by with_unfolding_all exact info_ev) ?_)
  (with_reducible refine (HA.out _ hT2).mono ?_)
  rintro x w3 ⟨rfl, hx3⟩
  have f3_E := f2_E.below hx3
  have hT3 := hT2.below hx3
  have hb3 := below_next hb2 hx3
  clear f2_E hT2 hb2 hx3
  go_upto_region 5 with (fail)
  have hm4 := below_made w3 (.cells zeroEv.cells 24)
  have f4_E := f3_E.below hm4
  have hT4 := hT3.below hm4
  have hb4 := below_next hb3 hm4
  have f4_F := evB_new w3 zeroEv
  rw [show (#[.int .i64 zeroEv.kind, .int .i64 zeroEv.order, .int .i64 zeroEv.item, .int .i64 zeroEv.qty, .int .i64 zeroEv.price, .int .i64 zeroEv.cur, .int .i64 zeroEv.tax, .string zeroEv.who, .int .i64 zeroEv.stamp, .string zeroEv.note] : Array Value) = zeroEv.cells from rfl]
  obtain ⟨w4, hw4⟩ : ∃ w4, w3.alloc (.cells zeroEv.cells 24) = w4 := ⟨_, rfl⟩
  rw [hw4] at f4_E f4_F hT4 hb4 ⊢
  have hzF : w3.heap.size < w4.heap.size := f4_F.lt
  have hyEF : w.heap.size < w3.heap.size := f3_E.lt
  clear hw4 hm4 hT3 hb3 f3_E
  go_wp2_with (with_reducible refine wpList_load_row rfl 24 (.tmp 3) rfl w.heap.size rfl _ #[.int .i64 e.kind, .int .i64 e.order, .int .i64 e.item, .int .i64 e.qty, .int .i64 e.price, .int .i64 e.cur, .int .i64 e.tax, .string e.who, .int .i64 e.stamp, .string e.note] (0, 0) _ f4_E.lit Tryd.underlying24 rfl (by with_unfolding_all exact info_ev) ?_)
  (with_reducible refine (HK.out _).mono ?_)
  rintro x w5 ⟨rfl, hx5⟩
  have f5_E := f4_E.below hx5
  have f5_F := f4_F.below hx5
  have hT5 := hT4.below hx5
  have hb5 := below_next hb4 hx5
  clear f4_E f4_F hT4 hb4 hx5
  go_wp2_with (with_reducible refine wpList_load_rowW (by with_unfolding_all rfl) 24 (.tmp 5) rfl w3.heap.size rfl _ #[.int .i64 0, .int .i64 0, .int .i64 0, .int .i64 0, .int .i64 0, .int .i64 0, .int .i64 0, .string ⟨#[]⟩, .int .i64 0, .string ⟨#[]⟩] (0, 0) _ f5_F.zero2 Tryd.underlying24 rfl (by with_unfolding_all exact info_ev) ?_)
  go_ret
  exact ⟨rfl, hb5⟩

set_option maxRecDepth 20000 in
set_option maxHeartbeats 3200000 in
theorem valid_yes (v : Int) (e : Ev) (w : World) (ht : Tab w) (h0 : chk v e = 0) :
    Calls Tryd.prog 6 #[.int .i64 v, e.val] w fun x w' => x = .returned (.bool true) ∧ Below w.heap.size w w' := by
  have hlt := ht.lt
  have hR := right_of h0
  have hv1 := hR.v1
  have hv5 := hR.v5
  have hk := fun wx => chk_any v e wx
  unfold GivesC at hk
  rw [h0] at hk
  have hk0 := hk
  unfold pairV Ev.val Ev.cells at hk0
  have HK := Lib.hid hk0
  clear hk0
  clear hk
  have HF : Hid (∀ (k : Nat), v + k ≤ 5 → ∃ X : Ev, X.order = e.order ∧ (∀ wx, Tab wx → Calls Tryd.prog 12 #[.int .i64 v, .int .i64 (v + k), .agg #[.int .i64 e.kind, .int .i64 e.order, .int .i64 e.item, .int .i64 e.qty, .int .i64 e.price, .int .i64 e.cur, .int .i64 e.tax, .string e.who, .int .i64 e.stamp, .string e.note]] wx fun x w' => x = .returned (.tuple #[.agg #[.int .i64 X.kind, .int .i64 X.order, .int .i64 X.item, .int .i64 X.qty, .int .i64 X.price, .int .i64 X.cur, .int .i64 X.tax, .string X.who, .int .i64 X.stamp, .string X.note], .int .i64 0]) ∧ Below wx.heap.size wx w') ∧ (∀ wx, Calls Tryd.prog 13 #[.int .i64 (v + k), .agg #[.int .i64 X.kind, .int .i64 X.order, .int .i64 X.item, .int .i64 X.qty, .int .i64 X.price, .int .i64 X.cur, .int .i64 X.tax, .string X.who, .int .i64 X.stamp, .string X.note]] wx fun x w' => x = .returned (.int .i64 0) ∧ Below wx.heap.size wx w')) := Lib.hid (fun k hk => by
    refine ⟨Ev.steps k v e, steps_order k v e, fun wx htx => ?_, fun wx => ?_⟩
    · have h := to_any v (v + k) e wx htx
      obtain ⟨a, b⟩ := to_ok (f := v) (t := v + k) (e := e) (by omega) h0
      rw [a, b, show (v + (k : Int) - v).toNat = k by omega] at h
      exact h
    · have h := chk_any (v + k) (Ev.steps k v e) wx
      unfold GivesC at h
      rw [right_to (right_steps k hR hk)] at h
      exact h)
  clear hR h0
  unfold Ev.val Ev.cells
  go_enter Tryd.func6, Tryd.ntmps6
  have hb0 := below_made w (.cells e.cells 24)
  have f0_E := evB_new w e
  have hT0 := ht.below hb0
  go_upto_region 1 with (fail)
  rw [show (#[.int .i64 e.kind, .int .i64 e.order, .int .i64 e.item, .int .i64 e.qty, .int .i64 e.price, .int .i64 e.cur, .int .i64 e.tax, .string e.who, .int .i64 e.stamp, .string e.note] : Array Value) = e.cells from rfl]
  obtain ⟨wa, hwa⟩ : ∃ wa, w.alloc (.cells e.cells 24) = wa := ⟨_, rfl⟩
  rw [hwa] at hb0 f0_E hT0 ⊢
  have hzE : w.heap.size < wa.heap.size := f0_E.lt
  clear hwa ht
  go_wp2_with fail
  (with_reducible refine (head_any _ hT0).mono ?_)
  rintro x w1 ⟨rfl, hx1⟩
  have f1_E := f0_E.below hx1
  have hT1 := hT0.below hx1
  have hb1 := below_next hb0 hx1
  clear f0_E hT0 hb0 hx1
  go_wp2_with (with_reducible refine wpList_load_row rfl 24 (.tmp 3) rfl w.heap.size rfl _ #[.int .i64 e.kind, .int .i64 e.order, .int .i64 e.item, .int .i64 e.qty, .int .i64 e.price, .int .i64 e.cur, .int .i64 e.tax, .string e.who, .int .i64 e.stamp, .string e.note] (0, 0) _ f1_E.lit Tryd.underlying24 rfl (by with_unfolding_all exact info_ev) ?_)
  (with_reducible refine (HK.out _).mono ?_)
  rintro x w2 ⟨rfl, hx2⟩
  have f2_E := f1_E.below hx2
  have hT2 := hT1.below hx2
  have hb2 := below_next hb1 hx2
  clear f1_E hT1 hb1 hx2
  go_wp2_with fail
  go_loopw [7] (fun iv wr => ∃ k : Nat, iv = .int .i64 (v + k) ∧ v + k ≤ 6 ∧ EvB wr w.heap.size e ∧ Tab wr ∧ Below w.heap.size w wr) (fun iv _ => (6 - intOf iv).toNat)
  case atStart => exact ⟨0, by simp, by omega, f2_E, hT2, hb2⟩
  case round =>
    clear f2_E hT2 hb2
    obtain ⟨k, rfl, hk, f2_E, hT2, hb2⟩ := hrel
    by_cases hlt2 : v + (k : Int) ≤ 5
    · obtain ⟨X, hXo, hto, hck⟩ := HF.out k hlt2
      have HT := Lib.hid hto
      have HCK := Lib.hid hck
      have HXO := Lib.hid hXo
      clear hto hck hXo HF
      go_wp2_with (with_reducible refine wpList_load_row rfl 24 (.tmp 3) rfl w.heap.size rfl _ #[.int .i64 e.kind, .int .i64 e.order, .int .i64 e.item, .int .i64 e.qty, .int .i64 e.price, .int .i64 e.cur, .int .i64 e.tax, .string e.who, .int .i64 e.stamp, .string e.note] (0, 0) _ f2_E.lit Tryd.underlying24 rfl (by with_unfolding_all exact info_ev) ?_)
      (with_reducible refine (HT.out _ hT2).mono ?_)
      rintro x w3 ⟨rfl, hx3⟩
      have f3_E := f2_E.below hx3
      have hT3 := hT2.below hx3
      have hb3 := below_next hb2 hx3
      clear f2_E hT2 hb2 hx3
      go_upto_region 10 with (fail)
      have hm4 := below_made w3 (.cells X.cells 24)
      have f4_E := f3_E.below hm4
      have hT4 := hT3.below hm4
      have hb4 := below_next hb3 hm4
      have f4_F := evB_new w3 X
      rw [show (#[.int .i64 X.kind, .int .i64 X.order, .int .i64 X.item, .int .i64 X.qty, .int .i64 X.price, .int .i64 X.cur, .int .i64 X.tax, .string X.who, .int .i64 X.stamp, .string X.note] : Array Value) = X.cells from rfl]
      obtain ⟨w4, hw4⟩ : ∃ w4, w3.alloc (.cells X.cells 24) = w4 := ⟨_, rfl⟩
      rw [hw4] at f4_E f4_F hT4 hb4 ⊢
      have hzF : w3.heap.size < w4.heap.size := f4_F.lt
      have hyEF : w.heap.size < w3.heap.size := f3_E.lt
      clear hw4 hm4 hT3 hb3 f3_E
      go_wp2_with (with_reducible refine wpList_load_rowW (by with_unfolding_all rfl) 24 (.tmp 8) rfl w3.heap.size rfl _ #[.int .i64 X.kind, .int .i64 X.order, .int .i64 X.item, .int .i64 X.qty, .int .i64 X.price, .int .i64 X.cur, .int .i64 X.tax, .string X.who, .int .i64 X.stamp, .string X.note] (0, 0) _ f4_F.lit Tryd.underlying24 rfl (by with_unfolding_all exact info_ev) ?_)
      (with_reducible refine (HCK.out _).mono ?_)
      rintro x w5 ⟨rfl, hx5⟩
      have f5_E := f4_E.below hx5
      have f5_F := f4_F.below hx5
      have hT5 := hT4.below hx5
      have hb5 := below_next hb4 hx5
      clear f4_E f4_F hT4 hb4 hx5
      have cE1 : w5.cell? ⟨w.heap.size, 1, none⟩ = some (.int .i64 e.order) := cell_blk f5_E.lit rfl
      have cF1 : w5.cell? ⟨w3.heap.size, 1, none⟩ = some (.int .i64 e.order) := (cell_blk (v := .int .i64 X.order) f5_F.lit rfl).trans (by rw [HXO.out])
      go_wp2_with fail
      go_roundw
      case rel => exact ⟨k + 1, by go_num, by omega, f5_E, hT5, hb5⟩
      case measure => simp [intOf]; omega
    · clear HF
      go_wp2_with fail
      go_ret
      exact ⟨rfl, hb2⟩

theorem valid_walk (v : Int) (ev : Value) (e : Ev) (w : World) (v0 : -9223372036854775808 ≤ v) (v1 : v ≤ 9223372036854775807) (he : ev = e.val ∧ e.ok) (ht : Tab w) :
    Calls Tryd.prog 6 #[.int .i64 v, ev] w fun x w' => x = .returned (.bool true) ∧ Below w.heap.size w w' := by
  obtain ⟨rfl, -⟩ := he
  by_cases h0 : chk v e = 0
  · exact valid_yes v e w ht h0
  · exact valid_no v e w ht h0
end Go.Proofs.YtfpmlmohmmccjaaDoor
