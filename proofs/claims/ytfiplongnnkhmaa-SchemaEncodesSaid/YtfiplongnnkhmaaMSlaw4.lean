/-
  The walk of SchemaEncodes, printed by genslaw4.py. No condition.
-/
import Derived.Test.YtfiplongnnkhmaaMShead
import Derived.Deep.Cut
namespace Go.Proofs.Ytfiplongnnkhmaa
open Go.RowKit
set_option linter.unusedVariables false

set_option maxRecDepth 8000 in
set_option maxHeartbeats 3200000 in
theorem encodes6_walk (v : Int) (ev : Value) (e : Ev) (w : World) (v0 : -9223372036854775808 ≤ v) (v1 : v ≤ 9223372036854775807) (he : ev = e.val ∧ e.ok) :
    Calls Try.prog 4 #[.int .i64 v, ev] w fun x w' => x = .returned (.bool true) ∧ Below w.heap.size w w' := by
  obtain ⟨rfl, -⟩ := he
  have hs := fun wx => senc_any v e wx
  have hr := fun wx => renc6_any v e wx
  obtain ⟨k0, k1, k2, k3, k4, k5, k6, k7, k8, k9⟩ := e
  obtain ⟨ck, hck⟩ : ∃ ck, chk v ⟨k0, k1, k2, k3, k4, k5, k6, k7, k8, k9⟩ = ck := ⟨_, rfl⟩
  obtain ⟨L, hL⟩ : ∃ L, encL v ⟨k0, k1, k2, k3, k4, k5, k6, k7, k8, k9⟩ = L := ⟨_, rfl⟩
  unfold GivesE at hs hr
  rw [hck, hL] at hs hr
  unfold Ev.val Ev.cells at hs hr ⊢
  have HS := Lib.hid hs
  have HR := Lib.hid hr
  have HH := Lib.hid schead_any
  have hbm := below_made w (.cells #[.int .i64 k0, .int .i64 k1, .int .i64 k2, .int .i64 k3, .int .i64 k4, .int .i64 k5, .int .i64 k6, .string k7, .int .i64 k8, .string k9] 24)
  have hE := heap_alloc_new w (.cells #[.int .i64 k0, .int .i64 k1, .int .i64 k2, .int .i64 k3, .int .i64 k4, .int .i64 k5, .int .i64 k6, .string k7, .int .i64 k8, .string k9] 24)
  clear hs hr hck hL v0 v1
  go_enter Try.func4, Try.ntmps4
  go_upto_region 1 with (fail)
  obtain ⟨w0, hw0⟩ : ∃ w0, w.alloc (.cells #[.int .i64 k0, .int .i64 k1, .int .i64 k2, .int .i64 k3, .int .i64 k4, .int .i64 k5, .int .i64 k6, .string k7, .int .i64 k8, .string k9] 24) = w0 := ⟨_, rfl⟩
  rw [hw0] at hbm hE ⊢
  clear hw0
  go_wp2_with (first
    | ((with_reducible refine (HH.out _).mono ?_); rintro x w1 ⟨rfl, hb1⟩; have hE := below_blk' hb1 hE; have hbm := below_next hbm hb1)
    | (with_reducible refine wpList_load_row rfl 24 (.tmp 3) rfl w.heap.size rfl _ #[.int .i64 k0, .int .i64 k1, .int .i64 k2, .int .i64 k3, .int .i64 k4, .int .i64 k5, .int .i64 k6, .string k7, .int .i64 k8, .string k9] (0, 0) _ hE Try.underlying24 rfl (by with_unfolding_all exact info_ev) ?_)
    | ((with_reducible refine (HR.out _).mono ?_); rintro x w2 ⟨a, c, l, rfl, rfl, ho, hb1⟩; have hE := below_blk' hb1 hE; have hbm := below_next hbm hb1; have r1 := own_rowAt ho)
    | ((with_reducible refine (HS.out _).mono ?_); rintro x w3 ⟨a2, c2, l, rfl, rfl, ho, hb1⟩; have hbm := below_next hbm hb1; have r1 := r1.below hb1; have r2 := own_rowAt ho)
    | (go_at_call 16; refine (same_any _ _ _ L _ _ _ L _ r2 r1).mono ?_; rintro x w4 ⟨rfl, hst⟩; have hbm := hbm.trans (hst.below _); simp only [beq_self_eq_true]))
  go_ret
  exact ⟨rfl, hbm⟩
end Go.Proofs.Ytfiplongnnkhmaa
