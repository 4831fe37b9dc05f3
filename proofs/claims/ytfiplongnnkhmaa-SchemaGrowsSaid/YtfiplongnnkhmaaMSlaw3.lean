/-
  The walks of SchemaChecks and SchemaGrows, printed by genslaw3.py. No condition.
-/
import Derived.Test.YtfiplongnnkhmaaMShead
import Derived.Deep.RegionHeld3
import Derived.Deep.Cut
namespace Go.Proofs.Ytfiplongnnkhmaa
open Go.RowKit
set_option linter.unusedVariables false

set_option maxRecDepth 8000 in
set_option maxHeartbeats 3200000 in
theorem checks_walk (v : Int) (ev : Value) (e : Ev) (w : World) (v0 : -9223372036854775808 ≤ v) (v1 : v ≤ 9223372036854775807) (he : ev = e.val ∧ e.ok) :
    Calls Try.prog 3 #[.int .i64 v, ev] w fun x w' => x = .returned (.bool true) ∧ Below w.heap.size w w' := by
  obtain ⟨rfl, -⟩ := he
  have hc := fun x wx => chk_any x e wx
  have hr := fun wx => rchk_any v e wx
  have h0 : chk 0 e = 30 := chk_none (by omega)
  have hc0 := fun wx => chk_any 0 e wx
  unfold GivesC at hc hr hc0
  rw [h0] at hc0
  obtain ⟨k0, k1, k2, k3, k4, k5, k6, k7, k8, k9⟩ := e
  obtain ⟨ck, hck⟩ : ∃ ck, chk v ⟨k0, k1, k2, k3, k4, k5, k6, k7, k8, k9⟩ = ck := ⟨_, rfl⟩
  have hcv := hc v
  rw [hck] at hr hcv
  unfold Ev.val Ev.cells at hcv hr hc0 ⊢
  have HC := Lib.hid hcv
  have HR := Lib.hid hr
  have HC0 := Lib.hid hc0
  have HH := Lib.hid schead_any
  have hbm := below_made w (.cells #[.int .i64 k0, .int .i64 k1, .int .i64 k2, .int .i64 k3, .int .i64 k4, .int .i64 k5, .int .i64 k6, .string k7, .int .i64 k8, .string k9] 24)
  have hE := heap_alloc_new w (.cells #[.int .i64 k0, .int .i64 k1, .int .i64 k2, .int .i64 k3, .int .i64 k4, .int .i64 k5, .int .i64 k6, .string k7, .int .i64 k8, .string k9] 24)
  clear hc hr h0 hc0 hck hcv v0 v1
  go_enter Try.func3, Try.ntmps3
  go_upto_region 1 with (fail)
  obtain ⟨w0, hw0⟩ : ∃ w0, w.alloc (.cells #[.int .i64 k0, .int .i64 k1, .int .i64 k2, .int .i64 k3, .int .i64 k4, .int .i64 k5, .int .i64 k6, .string k7, .int .i64 k8, .string k9] 24) = w0 := ⟨_, rfl⟩
  rw [hw0] at hbm hE ⊢
  clear hw0
  go_wp2_with (first
    | ((with_reducible refine (HH.out _).mono ?_); rintro x w1 ⟨rfl, hb1⟩; have hE := below_blk' hb1 hE; have hbm := below_next hbm hb1)
    | (with_reducible refine wpList_load_rowG rfl 24 (.tmp 3) rfl w.heap.size rfl _ #[.int .i64 k0, .int .i64 k1, .int .i64 k2, .int .i64 k3, .int .i64 k4, .int .i64 k5, .int .i64 k6, .string k7, .int .i64 k8, .string k9] (0, 0) _ hE Try.underlying24 rfl (by with_unfolding_all exact info_ev) ?_)
    | ((with_reducible refine (HC0.out _).mono ?_); rintro x w2 ⟨rfl, hb1⟩; have hE := below_blk' hb1 hE; have hbm := below_next hbm hb1))
  have hX : w2.drew.heap[w.heap.size]? = _ := hE
  have hbm : Below w.heap.size w w2.drew := hbm.trans ((Still.one w2 1).below _)
  clear HH HC0
  have c0 : w2.cell? ⟨w.heap.size, 0, none⟩ = some (.int .i64 k0) := cell_blk hE rfl
  have c1 : w2.cell? ⟨w.heap.size, 1, none⟩ = some (.int .i64 k1) := cell_blk hE rfl
  have c2 : w2.cell? ⟨w.heap.size, 2, none⟩ = some (.int .i64 k2) := cell_blk hE rfl
  have c3 : w2.cell? ⟨w.heap.size, 3, none⟩ = some (.int .i64 k3) := cell_blk hE rfl
  have c4 : w2.cell? ⟨w.heap.size, 4, none⟩ = some (.int .i64 k4) := cell_blk hE rfl
  have c5 : w2.cell? ⟨w.heap.size, 5, none⟩ = some (.int .i64 k5) := cell_blk hE rfl
  have c6 : w2.cell? ⟨w.heap.size, 6, none⟩ = some (.int .i64 k6) := cell_blk hE rfl
  have c7 : w2.cell? ⟨w.heap.size, 7, none⟩ = some (.string k7) := cell_blk hE rfl
  have c8 : w2.cell? ⟨w.heap.size, 8, none⟩ = some (.int .i64 k8) := cell_blk hE rfl
  have c9 : w2.cell? ⟨w.heap.size, 9, none⟩ = some (.string k9) := cell_blk hE rfl
  go_region_held3 (fun w' => w'.cell? ⟨w.heap.size, 0, none⟩ = some (.int .i64 k0) ∧ w'.cell? ⟨w.heap.size, 1, none⟩ = some (.int .i64 k1) ∧ w'.cell? ⟨w.heap.size, 2, none⟩ = some (.int .i64 k2) ∧ w'.cell? ⟨w.heap.size, 3, none⟩ = some (.int .i64 k3) ∧ w'.cell? ⟨w.heap.size, 4, none⟩ = some (.int .i64 k4) ∧ w'.cell? ⟨w.heap.size, 5, none⟩ = some (.int .i64 k5) ∧ w'.cell? ⟨w.heap.size, 6, none⟩ = some (.int .i64 k6) ∧ w'.cell? ⟨w.heap.size, 7, none⟩ = some (.string k7) ∧ w'.cell? ⟨w.heap.size, 8, none⟩ = some (.int .i64 k8) ∧ w'.cell? ⟨w.heap.size, 9, none⟩ = some (.string k9))
    (first
      | (go_split_ands; exact ⟨c0, c1, c2, c3, c4, c5, c6, c7, c8, c9⟩)
      | exact ⟨cell_blk hX rfl, cell_blk hX rfl, cell_blk hX rfl, cell_blk hX rfl, cell_blk hX rfl, cell_blk hX rfl, cell_blk hX rfl, cell_blk hX rfl, cell_blk hX rfl, cell_blk hX rfl⟩)
    (first
      | (go_at_call 12; refine (HC.out _).mono ?_; rintro x w5 ⟨rfl, hb5⟩; have hX := below_blk' hb5 hX; have hbm := below_next hbm hb5)
      | (go_at_call 13; refine (HR.out _).mono ?_; rintro x w6 ⟨rfl, hb5⟩; have hX := below_blk' hb5 hX; have hbm := below_next hbm hb5))
  all_goals
    go_wp2_with fail
    go_ret
    exact ⟨rfl, hbm⟩

theorem grow_neg {v : Int} {e : Ev} (h : chk v e = 0) (hq : e.qty < 0) : chk 3 e = 32 := by
  have r := right_of h
  have hv : v = 1 ∨ v = 2 := by
    have := r.v1
    have := r.v5
    have := r.q3
    omega
  have hk : ¬ e.kind < 1 := by have := r.k1; omega
  have hl : e.kind ≤ lastK 3 := by
    have := r.kl
    rcases hv with rfl | rfl <;> simp [lastK] at this ⊢ <;> omega
  rw [chk_in (by decide) (by decide) hk hl r.us r.ns]
  refine chk_bad (.inl ?_)
  show e.fit3 = false
  unfold Ev.fit3
  have : decide (0 ≤ e.qty) = false := by rw [decide_eq_false_iff_not]; omega
  rw [this]; simp
theorem grow_more {v : Int} {e : Ev} (h : chk v e = 0) (hv : v ≤ 4) (hq : ¬ e.qty < 0) : chk (v + 1) e = 0 := by
  have r := right_of h
  refine right_to { v1 := by have := r.v1; omega, v5 := by omega, k1 := r.k1, kl := ?_, us := r.us, ns := r.ns, o := r.o, i := r.i, q := r.q, q3 := fun _ => by omega, p := r.p, p1 := fun _ => by have := r.v1; omega, c := r.c, c1 := fun _ => by have := r.v1; omega, t := r.t, t2 := fun hx => r.t2 (by omega), u := r.u, u3 := fun hx => r.u3 (by omega), s := r.s, s4 := fun hx => r.s4 (by omega), n4 := fun hx => r.n4 (by omega) }
  have h1 := r.v1
  have h2 := r.kl
  have hc : v = 1 ∨ v = 2 ∨ v = 3 ∨ v = 4 := by omega
  rcases hc with rfl | rfl | rfl | rfl <;> simp [lastK] at h2 ⊢ <;> omega
theorem chk_one : chk 1 ⟨1, 1, 0, 0, 0, 0, 0, ⟨#[]⟩, 0, ⟨#[]⟩⟩ = 0 := by decide +kernel

set_option maxRecDepth 8000 in
set_option maxHeartbeats 6400000 in
theorem grows_walk (v : Int) (ev : Value) (e : Ev) (w : World) (v0 : -9223372036854775808 ≤ v) (v1 : v ≤ 9223372036854775807) (he : ev = e.val ∧ e.ok) :
    Calls Try.prog 10 #[.int .i64 v, ev] w fun x w' => x = .returned (.bool true) ∧ Below w.heap.size w w' := by
  obtain ⟨rfl, -⟩ := he
  have hc := fun x wx => chk_any x e wx
  have hc0 := fun wx => chk_any 1 ⟨1, 1, 0, 0, 0, 0, 0, ⟨#[]⟩, 0, ⟨#[]⟩⟩ wx
  unfold GivesC at hc hc0
  rw [chk_one] at hc0
  have hn := @grow_neg v e
  have hm := @grow_more v e
  obtain ⟨k0, k1, k2, k3, k4, k5, k6, k7, k8, k9⟩ := e
  have hcv := hc v
  obtain ⟨ck, hck⟩ : ∃ ck, chk v ⟨k0, k1, k2, k3, k4, k5, k6, k7, k8, k9⟩ = ck := ⟨_, rfl⟩
  rw [hck] at hcv hn hm
  dsimp only at hn hm
  have hc3 := hc 3
  have hc1 := hc (v + 1)
  unfold Ev.val Ev.cells at hcv hc0 hc3 hc1 ⊢
  have HC := Lib.hid hcv
  have HC0 := Lib.hid hc0
  have HC3 := Lib.hid hc3
  have HC1 := Lib.hid hc1
  have HN := Lib.hid hn
  have HM := Lib.hid hm
  have HH := Lib.hid schead_any
  have hbm := below_made w (.cells #[.int .i64 k0, .int .i64 k1, .int .i64 k2, .int .i64 k3, .int .i64 k4, .int .i64 k5, .int .i64 k6, .string k7, .int .i64 k8, .string k9] 24)
  have hE := heap_alloc_new w (.cells #[.int .i64 k0, .int .i64 k1, .int .i64 k2, .int .i64 k3, .int .i64 k4, .int .i64 k5, .int .i64 k6, .string k7, .int .i64 k8, .string k9] 24)
  have HW := Lib.hid (⟨_, rfl⟩ : ∃ w0, w.alloc (.cells #[.int .i64 k0, .int .i64 k1, .int .i64 k2, .int .i64 k3, .int .i64 k4, .int .i64 k5, .int .i64 k6, .string k7, .int .i64 k8, .string k9] 24) = w0)
  clear hc hc0 hck hcv v0 v1 hn hm hc3 hc1
  by_cases g1 : v < 1
  · go_enter Try.func10, Try.ntmps10
    go_upto_region 1 with (fail)
    obtain ⟨w0, hw0⟩ := HW.out
    rw [hw0] at hbm hE ⊢
    clear hw0 HW
    go_wp2_with (first
      | ((with_reducible refine (HH.out _).mono ?_); rintro x w1 ⟨rfl, hb1⟩; have hE := below_blk' hb1 hE; have hbm := below_next hbm hb1)
        | ((with_reducible refine (HC0.out _).mono ?_); rintro x w2 ⟨rfl, hb1⟩; have hE := below_blk' hb1 hE; have hbm := below_next hbm hb1))
    go_ret
    exact ⟨rfl, hbm⟩
  by_cases g4 : 4 < v
  · go_enter Try.func10, Try.ntmps10
    go_upto_region 1 with (fail)
    obtain ⟨w0, hw0⟩ := HW.out
    rw [hw0] at hbm hE ⊢
    clear hw0 HW
    go_wp2_with (first
      | ((with_reducible refine (HH.out _).mono ?_); rintro x w1 ⟨rfl, hb1⟩; have hE := below_blk' hb1 hE; have hbm := below_next hbm hb1)
        | ((with_reducible refine (HC0.out _).mono ?_); rintro x w2 ⟨rfl, hb1⟩; have hE := below_blk' hb1 hE; have hbm := below_next hbm hb1))
    go_ret
    exact ⟨rfl, hbm⟩
  have d1 : decide (v < 1) = false := decide_eq_false g1
  have d4 : decide (4 < v) = false := decide_eq_false g4
  by_cases hck : ck = 0
  · subst hck
    by_cases hq : k3 < 0
    · have h32 := HN.out rfl hq
      rw [h32] at HC3
      clear h32
      go_enter Try.func10, Try.ntmps10
      go_upto_region 1 with (fail)
      obtain ⟨w0, hw0⟩ := HW.out
      rw [hw0] at hbm hE ⊢
      clear hw0 HW
      go_wp2_with (first
        | ((with_reducible refine (HH.out _).mono ?_); rintro x w1 ⟨rfl, hb1⟩; have hE := below_blk' hb1 hE; have hbm := below_next hbm hb1)
        | ((with_reducible refine (HC0.out _).mono ?_); rintro x w2 ⟨rfl, hb1⟩; have hE := below_blk' hb1 hE; have hbm := below_next hbm hb1)
        | (with_reducible refine wpList_load_rowG rfl 24 (.tmp 3) rfl w.heap.size rfl _ #[.int .i64 k0, .int .i64 k1, .int .i64 k2, .int .i64 k3, .int .i64 k4, .int .i64 k5, .int .i64 k6, .string k7, .int .i64 k8, .string k9] (0, 0) _ hE Try.underlying24 rfl (by with_unfolding_all exact info_ev) ?_)
        | ((with_reducible refine (HC.out _).mono ?_); rintro x w5 ⟨rfl, hb1⟩; have hE := below_blk' hb1 hE; have hbm := below_next hbm hb1; have cq : w5.cell? ⟨w.heap.size, 3, none⟩ = some (.int .i64 k3) := cell_blk hE rfl)
        | (with_reducible refine wpList_load_row rfl 24 (.tmp 3) rfl w.heap.size rfl _ #[.int .i64 k0, .int .i64 k1, .int .i64 k2, .int .i64 k3, .int .i64 k4, .int .i64 k5, .int .i64 k6, .string k7, .int .i64 k8, .string k9] (0, 0) _ hE Try.underlying24 rfl (by with_unfolding_all exact info_ev) ?_)
        | ((with_reducible refine (HC3.out _).mono ?_); rintro x w6 ⟨rfl, hb1⟩; have hbm := below_next hbm hb1))
      go_ret
      exact ⟨rfl, hbm⟩
    · have h0 := HM.out rfl (by omega) hq
      rw [h0] at HC1
      clear h0
      go_enter Try.func10, Try.ntmps10
      go_upto_region 1 with (fail)
      obtain ⟨w0, hw0⟩ := HW.out
      rw [hw0] at hbm hE ⊢
      clear hw0 HW
      go_wp2_with (first
        | ((with_reducible refine (HH.out _).mono ?_); rintro x w1 ⟨rfl, hb1⟩; have hE := below_blk' hb1 hE; have hbm := below_next hbm hb1)
        | ((with_reducible refine (HC0.out _).mono ?_); rintro x w2 ⟨rfl, hb1⟩; have hE := below_blk' hb1 hE; have hbm := below_next hbm hb1)
        | (with_reducible refine wpList_load_rowG rfl 24 (.tmp 3) rfl w.heap.size rfl _ #[.int .i64 k0, .int .i64 k1, .int .i64 k2, .int .i64 k3, .int .i64 k4, .int .i64 k5, .int .i64 k6, .string k7, .int .i64 k8, .string k9] (0, 0) _ hE Try.underlying24 rfl (by with_unfolding_all exact info_ev) ?_)
        | ((with_reducible refine (HC.out _).mono ?_); rintro x w5 ⟨rfl, hb1⟩; have hE := below_blk' hb1 hE; have hbm := below_next hbm hb1; have cq : w5.cell? ⟨w.heap.size, 3, none⟩ = some (.int .i64 k3) := cell_blk hE rfl)
        | (with_reducible refine wpList_load_row rfl 24 (.tmp 3) rfl w.heap.size rfl _ #[.int .i64 k0, .int .i64 k1, .int .i64 k2, .int .i64 k3, .int .i64 k4, .int .i64 k5, .int .i64 k6, .string k7, .int .i64 k8, .string k9] (0, 0) _ hE Try.underlying24 rfl (by with_unfolding_all exact info_ev) ?_)
        | ((with_reducible refine (HC1.out _).mono ?_); rintro x w6 ⟨rfl, hb1⟩; have hbm := below_next hbm hb1))
      go_ret
      exact ⟨rfl, hbm⟩
  · have hck' : (ck != 0) = true := by rw [bne_iff_ne]; exact hck
    clear hck
    go_enter Try.func10, Try.ntmps10
    go_upto_region 1 with (fail)
    obtain ⟨w0, hw0⟩ := HW.out
    rw [hw0] at hbm hE ⊢
    clear hw0 HW
    go_wp2_with (first
      | ((with_reducible refine (HH.out _).mono ?_); rintro x w1 ⟨rfl, hb1⟩; have hE := below_blk' hb1 hE; have hbm := below_next hbm hb1)
        | ((with_reducible refine (HC0.out _).mono ?_); rintro x w2 ⟨rfl, hb1⟩; have hE := below_blk' hb1 hE; have hbm := below_next hbm hb1)
      | (with_reducible refine wpList_load_rowG rfl 24 (.tmp 3) rfl w.heap.size rfl _ #[.int .i64 k0, .int .i64 k1, .int .i64 k2, .int .i64 k3, .int .i64 k4, .int .i64 k5, .int .i64 k6, .string k7, .int .i64 k8, .string k9] (0, 0) _ hE Try.underlying24 rfl (by with_unfolding_all exact info_ev) ?_)
      | ((with_reducible refine (HC.out _).mono ?_); rintro x w5 ⟨rfl, hb1⟩; have hE := below_blk' hb1 hE; have hbm := below_next hbm hb1))
    go_ret
    exact ⟨rfl, hbm⟩
end Go.Proofs.Ytfiplongnnkhmaa
