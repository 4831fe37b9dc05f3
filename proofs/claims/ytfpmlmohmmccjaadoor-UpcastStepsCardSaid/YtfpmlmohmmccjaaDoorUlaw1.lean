/-
  The walk of UpcastSteps, printed by genulaw.py. Condition: the program's table of taxes holds what its text lays.
-/
import Derived.Test.YtfpmlmohmmccjaaDoorUto
namespace Go.Proofs.YtfpmlmohmmccjaaDoor
open Go.RowKit
set_option linter.unusedVariables false

theorem EvB.zero {w : World} {b : Nat} (h : EvB w b zeroEv) : w.heap[b]? = some (.cells #[.int .i64 0, .int .i64 0, .int .i64 0, .int .i64 0, .int .i64 0, .int .i64 0, .int .i64 0, .string ⟨#[]⟩, .int .i64 0, .string ⟨#[]⟩] 24 (0, 0)) := h
theorem step_at (v : Int) (e : Ev) (hv1 : -9223372036854775808 ≤ v) (hv2 : v ≤ 9223372036854775807) : ∃ X r, (∀ wx, Tab wx → Calls Tryd.prog 8 #[.int .i64 v, e.val] wx fun x w' => x = .returned (pairV X r) ∧ Below wx.heap.size wx w') ∧ (∀ wx, Calls Tryd.prog 9 #[.int .i64 v, .int .i64 (wrap64 (v + 1)), e.val] wx fun x w' => x = .returned (pairV X r) ∧ Below wx.heap.size wx w') ∧ ((v < 1 ∨ 4 < v) → X = zeroEv ∧ r = 30) := by
  refine ⟨stepE v e, stepR v e, fun wx htx => step_any v e wx htx, fun wx => ?_, fun h => ?_⟩
  · have hA : toE v (wrap64 (v + 1)) e = stepE v e ∧ toR v (wrap64 (v + 1)) e = stepR v e := by
      by_cases hf : v < 1 ∨ 5 < v
      · obtain ⟨a, b⟩ := to_none (t := wrap64 (v + 1)) (e := e) hf
        rw [a, b]; unfold stepE stepR
        have hc := chk_none (e := e) hf
        by_cases h5 : 5 ≤ v
        · rw [if_pos h5, if_pos h5]; exact ⟨rfl, rfl⟩
        · rw [if_neg h5, if_neg h5, hc, if_neg (by decide)]; exact ⟨rfl, rfl⟩
      · have hw : wrap64 (v + 1) = v + 1 := w64 (by omega) (by omega)
        rw [hw]
        by_cases h5 : v = 5
        · subst h5
          obtain ⟨a, b⟩ := to_bad (f := 5) (t := 5 + 1) (e := e) (by omega)
          rw [a, b]; exact ⟨rfl, rfl⟩
        · have h5' : ¬ 5 ≤ v := by omega
          have hn : (v + 1 - v).toNat = 1 := by omega
          have hb : ¬ (v + 1 < v ∨ 5 < v + 1) := by omega
          unfold stepE stepR
          rw [if_neg h5', if_neg h5']
          by_cases h0 : chk v e = 0
          · obtain ⟨a, b⟩ := to_ok hb h0
            rw [a, b, if_pos h0, h0, hn]; exact ⟨rfl, rfl⟩
          · obtain ⟨a, b⟩ := to_chk hb h0
            rw [a, b, if_neg h0]; exact ⟨rfl, rfl⟩
    have := rto_any v (wrap64 (v + 1)) e wx
    rw [hA.1, hA.2] at this
    exact this
  · unfold stepE stepR
    by_cases h5 : 5 ≤ v
    · rw [if_pos h5, if_pos h5]; exact ⟨rfl, rfl⟩
    · have hc := chk_none (v := v) (e := e) (by omega)
      rw [if_neg h5, if_neg h5, hc, if_neg (by decide)]; exact ⟨rfl, rfl⟩

theorem step_three (w : World) (ht : Tab w) : Calls Tryd.prog 8 #[.int .i64 1, Ev.val ⟨3, 1, 0, 0, 3, 0, 0, ⟨#[]⟩, 0, ⟨#[]⟩⟩] w fun x w' => x = .returned (pairV ⟨3, 1, 0, 0, 300, 0, 0, ⟨#[]⟩, 0, ⟨#[]⟩⟩ 0) ∧ Below w.heap.size w w' := by
  have h := step_any 1 ⟨3, 1, 0, 0, 3, 0, 0, ⟨#[]⟩, 0, ⟨#[]⟩⟩ w ht
  have hc : chk 1 ⟨3, 1, 0, 0, 3, 0, 0, ⟨#[]⟩, 0, ⟨#[]⟩⟩ = 0 := by decide
  unfold stepE stepR at h
  rw [if_neg (by decide : ¬ (5 : Int) ≤ 1), if_neg (by decide : ¬ (5 : Int) ≤ 1), if_pos hc, hc] at h
  exact h

set_option maxRecDepth 20000 in
set_option maxHeartbeats 3200000 in
theorem steps_walk (v : Int) (ev : Value) (e : Ev) (w : World) (v0 : -9223372036854775808 ≤ v) (v1 : v ≤ 9223372036854775807) (he : ev = e.val ∧ e.ok) (ht : Tab w) :
    Calls Tryd.prog 3 #[.int .i64 v, ev] w fun x w' => x = .returned (.bool true) ∧ Below w.heap.size w w' := by
  obtain ⟨rfl, -⟩ := he
  obtain ⟨X, r, hst, hto, hz⟩ := step_at v e v0 v1
  unfold pairV Ev.val Ev.cells at hst hto
  have HST := Lib.hid hst
  have HTO := Lib.hid hto
  have h3 := step_three
  unfold pairV Ev.val Ev.cells at h3
  have H3 := Lib.hid h3
  clear hst hto h3
  have hb0 := below_made w (.cells e.cells 24)
  have hE0 := evB_new w e
  have hT0 := ht.below hb0
  have hz0 := hb0.size
  have hcase : (Hid (X = zeroEv ∧ r = 30) ∧ (v < 1 ∨ (¬ v < 1 ∧ 4 < v))) ∨ (¬ v < 1 ∧ ¬ 4 < v) := by
    by_cases h1 : v < 1 ∨ 4 < v
    · exact .inl ⟨Lib.hid (hz h1), by omega⟩
    · exact .inr (by omega)
  have HC := Lib.hid hcase
  clear hz hcase v0 v1
  unfold Ev.val Ev.cells
  go_enter Tryd.func3, Tryd.ntmps3
  go_upto_region 1 with (fail)
  rw [show (#[.int .i64 e.kind, .int .i64 e.order, .int .i64 e.item, .int .i64 e.qty, .int .i64 e.price, .int .i64 e.cur, .int .i64 e.tax, .string e.who, .int .i64 e.stamp, .string e.note] : Array Value) = e.cells from rfl]
  obtain ⟨wa, hwa⟩ : ∃ wa, w.alloc (.cells e.cells 24) = wa := ⟨_, rfl⟩
  rw [hwa] at hb0 hE0 hT0 hz0 ⊢
  clear hwa ht
  go_wp2_with fail
  (with_reducible refine (H3.out _ hT0).mono ?_)
  rintro x w1 ⟨rfl, hb1⟩
  have hE1 := hE0.below hb1
  have hT1 := hT0.below hb1
  have hab1 := below_next hb0 hb1
  clear hE0 hT0 hb0 hb1 H3
  go_upto_region 4 with (fail)
  have hbm := below_made w1 (.cells (Ev.cells ⟨3, 1, 0, 0, 300, 0, 0, ⟨#[]⟩, 0, ⟨#[]⟩⟩) 24)
  have hE2 := hE1.below hbm
  have hT2 := hT1.below hbm
  have hab2 := below_next hab1 hbm
  clear hE1 hT1 hab1 hbm
  rw [show (#[.int .i64 3, .int .i64 1, .int .i64 0, .int .i64 0, .int .i64 300, .int .i64 0, .int .i64 0, .string ⟨#[]⟩, .int .i64 0, .string ⟨#[]⟩] : Array Value) = Ev.cells ⟨3, 1, 0, 0, 300, 0, 0, ⟨#[]⟩, 0, ⟨#[]⟩⟩ from rfl]
  obtain ⟨w2, hw2⟩ : ∃ w2, w1.alloc (.cells (Ev.cells ⟨3, 1, 0, 0, 300, 0, 0, ⟨#[]⟩, 0, ⟨#[]⟩⟩) 24) = w2 := ⟨_, rfl⟩
  rw [hw2] at hE2 hT2 hab2 ⊢
  clear hw2
  go_wp2_with (with_reducible refine wpList_load_row rfl 24 (.tmp 3) rfl w.heap.size rfl _ #[.int .i64 e.kind, .int .i64 e.order, .int .i64 e.item, .int .i64 e.qty, .int .i64 e.price, .int .i64 e.cur, .int .i64 e.tax, .string e.who, .int .i64 e.stamp, .string e.note] (0, 0) _ hE2.lit Tryd.underlying24 rfl (by with_unfolding_all exact info_ev) ?_)
  (with_reducible refine (HTO.out _).mono ?_)
  rintro x w3 ⟨rfl, hb3⟩
  have hE3 := hE2.below hb3
  have hT3 := hT2.below hb3
  have hab3 := below_next hab2 hb3
  clear hE2 hT2 hab2 hb3
  go_upto_region 5 with (fail)
  have hbm := below_made w3 (.cells X.cells 24)
  have hE4 := hE3.below hbm
  have hT4 := hT3.below hbm
  have hab4 := below_next hab3 hbm
  have hW4 := evB_new w3 X
  rw [show (#[.int .i64 X.kind, .int .i64 X.order, .int .i64 X.item, .int .i64 X.qty, .int .i64 X.price, .int .i64 X.cur, .int .i64 X.tax, .string X.who, .int .i64 X.stamp, .string X.note] : Array Value) = X.cells from rfl]
  obtain ⟨w4, hw4⟩ : ∃ w4, w3.alloc (.cells X.cells 24) = w4 := ⟨_, rfl⟩
  rw [hw4] at hE4 hT4 hab4 hW4 hbm ⊢
  have hz34 : w3.heap.size < w4.heap.size := hW4.lt
  have hz3 : w.heap.size ≤ w3.heap.size := hab3.size
  have hz3' : w.heap.size < w3.heap.size := hE3.lt
  clear hw4 hE3 hT3 hab3 hbm
  rcases HC.out with ⟨hx, hor⟩ | ⟨g1, g2⟩
  · obtain ⟨rfl, rfl⟩ := hx.out
    rcases hor with g1 | ⟨g1, g2⟩
    all_goals
      go_wp2_with (first
        | (with_reducible refine wpList_store_row rfl 24 (.tmp 7) (.tmp 37) rfl w3.heap.size zeroEv.cells rfl rfl _ _ hW4.eq (by with_unfolding_all exact info_ev) (by with_unfolding_all exact rfl) (by with_unfolding_all exact rfl) ?_)
        | (with_reducible refine wpList_load_row rfl 24 (.tmp 3) rfl w.heap.size rfl _ #[.int .i64 e.kind, .int .i64 e.order, .int .i64 e.item, .int .i64 e.qty, .int .i64 e.price, .int .i64 e.cur, .int .i64 e.tax, .string e.who, .int .i64 e.stamp, .string e.note] (0, 0) _ (hE4.rowOther (by omega)).lit Tryd.underlying24 rfl (by with_unfolding_all exact info_ev) ?_))
      (with_reducible refine (HST.out _ (hT4.row (by omega))).mono ?_)
      rintro x w5 ⟨rfl, hb5⟩
      have hW5 := (hW4.row zeroEv).below hb5
      have hab5 := below_next (below_row hab4 (by omega) _) hb5
      clear hE4 hT4 hab4 hW4 hb5
      have hbm := below_made w5 (.cells zeroEv.cells 24)
      have hW6 := hW5.below hbm
      have hG6 := evB_new w5 zeroEv
      have hab6 := below_next hab5 hbm
      clear hbm hW5 hab5
      go_upto_region 8 with (fail)
      rw [show (#[.int .i64 zeroEv.kind, .int .i64 zeroEv.order, .int .i64 zeroEv.item, .int .i64 zeroEv.qty, .int .i64 zeroEv.price, .int .i64 zeroEv.cur, .int .i64 zeroEv.tax, .string zeroEv.who, .int .i64 zeroEv.stamp, .string zeroEv.note] : Array Value) = zeroEv.cells from rfl]
      obtain ⟨w6, hw6⟩ : ∃ w6, w5.alloc (.cells zeroEv.cells 24) = w6 := ⟨_, rfl⟩
      rw [hw6] at hW6 hG6 hab6 ⊢
      clear hw6
      go_wp2_with (first
        | (with_reducible refine wpList_load_row rfl 24 (.tmp 9) rfl w5.heap.size rfl _ #[.int .i64 zeroEv.kind, .int .i64 zeroEv.order, .int .i64 zeroEv.item, .int .i64 zeroEv.qty, .int .i64 zeroEv.price, .int .i64 zeroEv.cur, .int .i64 zeroEv.tax, .string zeroEv.who, .int .i64 zeroEv.stamp, .string zeroEv.note] (0, 0) _ hG6.lit Tryd.underlying24 rfl (by with_unfolding_all exact info_ev) ?_)
        | (with_reducible refine wpList_load_row rfl 24 (.tmp 7) rfl w3.heap.size rfl _ #[.int .i64 zeroEv.kind, .int .i64 zeroEv.order, .int .i64 zeroEv.item, .int .i64 zeroEv.qty, .int .i64 zeroEv.price, .int .i64 zeroEv.cur, .int .i64 zeroEv.tax, .string zeroEv.who, .int .i64 zeroEv.stamp, .string zeroEv.note] (0, 0) _ hW6.lit Tryd.underlying24 rfl (by with_unfolding_all exact info_ev) ?_))
      go_ret
      exact ⟨rfl, hab6⟩
  · go_wp2_with (with_reducible refine wpList_load_row rfl 24 (.tmp 3) rfl w.heap.size rfl _ #[.int .i64 e.kind, .int .i64 e.order, .int .i64 e.item, .int .i64 e.qty, .int .i64 e.price, .int .i64 e.cur, .int .i64 e.tax, .string e.who, .int .i64 e.stamp, .string e.note] (0, 0) _ hE4.lit Tryd.underlying24 rfl (by with_unfolding_all exact info_ev) ?_)
    (with_reducible refine (HST.out _ hT4).mono ?_)
    rintro x w5 ⟨rfl, hb5⟩
    have hW5 := hW4.below hb5
    have hab5 := below_next hab4 hb5
    clear hE4 hT4 hab4 hW4 hb5
    have hbm := below_made w5 (.cells X.cells 24)
    have hW6 := hW5.below hbm
    have hG6 := evB_new w5 X
    have hab6 := below_next hab5 hbm
    clear hbm hW5 hab5
    go_upto_region 8 with (fail)
    rw [show (#[.int .i64 X.kind, .int .i64 X.order, .int .i64 X.item, .int .i64 X.qty, .int .i64 X.price, .int .i64 X.cur, .int .i64 X.tax, .string X.who, .int .i64 X.stamp, .string X.note] : Array Value) = X.cells from rfl]
    obtain ⟨w6, hw6⟩ : ∃ w6, w5.alloc (.cells X.cells 24) = w6 := ⟨_, rfl⟩
    rw [hw6] at hW6 hG6 hab6 ⊢
    clear hw6
    go_wp2_with (first
      | (with_reducible refine wpList_load_row rfl 24 (.tmp 9) rfl w5.heap.size rfl _ #[.int .i64 X.kind, .int .i64 X.order, .int .i64 X.item, .int .i64 X.qty, .int .i64 X.price, .int .i64 X.cur, .int .i64 X.tax, .string X.who, .int .i64 X.stamp, .string X.note] (0, 0) _ hG6.lit Tryd.underlying24 rfl (by with_unfolding_all exact info_ev) ?_)
      | (with_reducible refine wpList_load_row rfl 24 (.tmp 7) rfl w3.heap.size rfl _ #[.int .i64 X.kind, .int .i64 X.order, .int .i64 X.item, .int .i64 X.qty, .int .i64 X.price, .int .i64 X.cur, .int .i64 X.tax, .string X.who, .int .i64 X.stamp, .string X.note] (0, 0) _ hW6.lit Tryd.underlying24 rfl (by with_unfolding_all exact info_ev) ?_))
    go_ret
    exact ⟨rfl, hab6⟩
end Go.Proofs.YtfpmlmohmmccjaaDoor
