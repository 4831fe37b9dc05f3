/-
  The walks of schema.Decode at any version and of schema.Unpack. Condition: the argument reads as bytes.
-/
import Derived.Test.YtkdpingniohfhaaDoorMSd
import Derived.Test.YtkdpingniohfhaaDoorMSe
import Derived.RegionTactic
import Derived.BigRegion
namespace Go.Proofs.YtkdpingniohfhaaDoor
open Go.RowKit
set_option linter.unusedVariables false

set_option maxHeartbeats 1600000 in
theorem sdec_none (v : Int) (a : Option Addr) (n c : Nat) (l : List UInt8) (w : World) (hv : v < 1 ∨ 5 < v) :
    Calls Tryd.prog 21 #[.int .i64 v, .slice a n c] w (GivesDE w (sdecF v l)) := by
  have HS : Hid (sdecF v l = (default, 30)) := Lib.hid (by unfold sdecF; rw [if_pos hv])
  have hbm := below_made w (.cells (default : Ev).cells 25)
  have hR := heap_alloc_new w (.cells (default : Ev).cells 25)
  have HW := Lib.hid (⟨_, rfl⟩ : ∃ w0, w.alloc (.cells (default : Ev).cells 25) = w0)
  by_cases h1 : v < 1
  all_goals
    first | (have h5 : 5 < v := by omega) | skip
    clear hv
    go_enter Tryd.func21, Tryd.ntmps21
    go_upto_region 1 with (fail)
    rw [show (#[.int .i64 0, .int .i64 0, .int .i64 0, .int .i64 0, .int .i64 0, .int .i64 0, .int .i64 0, .string ⟨#[]⟩, .int .i64 0, .string ⟨#[]⟩] : Array Value) = (default : Ev).cells from rfl]
    obtain ⟨w0, hw0⟩ := HW.out
    rw [hw0] at hbm hR ⊢
    clear hw0 HW
    go_wp2_with (with_reducible refine wpList_store_row rfl 25 (.tmp 4) (.tmp 17) rfl w.heap.size (default : Ev).cells rfl rfl _ _ hR (by with_unfolding_all exact info_ev) (by with_unfolding_all exact rfl) (by with_unfolding_all exact rfl) ?_)
    refine bodyPost_ret (v := .tuple #[.agg (default : Ev).cells, .int .i64 30]) (ret_evN rfl rfl (setRow_heap _ w.heap.size _ (default : Ev).cells _ _ hR) rfl rfl) rfl ?_
    rw [HS.out]
    exact ⟨rfl, below_row hbm (Nat.le_refl _) _⟩
theorem sdec_any (v : Int) (a : Option Addr) (n c : Nat) (l : List UInt8) (w : World) (r : RowAt w a n c 1 (l.map B)) :
    Calls Tryd.prog 21 #[.int .i64 v, .slice a n c] w (GivesDE w (sdecF v l)) := by
  by_cases hv : v < 1 ∨ 5 < v
  · exact sdec_none v a n c l w hv
  · have hc : v = 1 ∨ v = 2 ∨ v = 3 ∨ v = 4 ∨ v = 5 := by omega
    rcases hc with rfl | rfl | rfl | rfl | rfl
    · exact sdec1_any a n c l w r
    · exact sdec2_any a n c l w r
    · exact sdec3_any a n c l w r
    · exact sdec4_any a n c l w r
    · exact sdec5_any a n c l w r

/-- The version and the event of a pack, or what is wrong. -/
def unpF (l : List UInt8) : Int × Ev × Int :=
  if (dec l).2.2 ≠ 0 then (0, default, ((dec l).2.2 : Int))
  else if (sdecF (clampI (dec l).1) (l.drop (dec l).2.1)).2 ≠ 0 then (0, default, (sdecF (clampI (dec l).1) (l.drop (dec l).2.1)).2)
  else (clampI (dec l).1, (sdecF (clampI (dec l).1) (l.drop (dec l).2.1)).1, 0)
def GivesU (w : World) (y : Int × Ev × Int) (x : Ending) (w' : World) : Prop := x = .returned (.tuple #[.int .i64 y.1, y.2.1.val, .int .i64 y.2.2]) ∧ Below w.heap.size w w'
theorem results_tmp_cell_tmp {fn : Func} {p u v : Tmp} {ty : TypeId} (h : fn.results = #[.tmp u, .cell p ty, .tmp v]) (tmps : Array Value) (P : Program) (w : World) :
    (results fn tmps).run P w =
      ((asAddr (tmps.getD p undef)).run P w).andThen fun a w₁ => ((loadVar ty a).run P w₁).andThen fun x w₂ => .ok (.tuple #[tmps.getD u undef, x, tmps.getD v undef]) w₂ := by
  simp only [results, h]
  simp [Sem.run_bind, Result.andThen]
theorem ret_evU {fn : Func} {p u s : Tmp} {cs : Array Value} {tmps : Array Value} {w : World} {g : Nat} {e : TypeId} (h : fn.results = #[.tmp u, .cell p 25, .tmp s]) (hp : tmps.getD p undef = .pointer (some ⟨g, 0, none⟩)) (hg : w.heap[g]? = some (.cells cs e (0, 0))) (hs : cs.size = 10) {v z : Value} (hv : tmps.getD u undef = v) (hz : tmps.getD s undef = z) :
    (results fn tmps).run Tryd.prog w = .ok (.tuple #[v, .agg cs, z]) w := by
  subst hv
  subst hz
  rw [results_tmp_cell_tmp h, hp]
  have hl := run_loadVar_row (P := Tryd.prog) w g e 25 cs (0, 0) _ hg Tryd.underlying25 rfl (by rw [hs]; exact info_ev)
  simp [asAddr, hl]

theorem set10_blk {w : World} {b : Nat} {t : TypeId} {c0 c1 c2 c3 c4 c5 c6 c7 c8 c9 v0 v1 v2 v3 v4 v5 v6 v7 v8 v9 : Value} (h : w.heap[b]? = some (.cells #[c0, c1, c2, c3, c4, c5, c6, c7, c8, c9] t (0, 0))) :
    ((((((((((w.setCell ⟨b, 0, none⟩ v0).setCell ⟨b, 1, none⟩ v1).setCell ⟨b, 2, none⟩ v2).setCell ⟨b, 3, none⟩ v3).setCell ⟨b, 4, none⟩ v4).setCell ⟨b, 5, none⟩ v5).setCell ⟨b, 6, none⟩ v6).setCell ⟨b, 7, none⟩ v7).setCell ⟨b, 8, none⟩ v8).setCell ⟨b, 9, none⟩ v9).heap[b]? = some (.cells #[v0, v1, v2, v3, v4, v5, v6, v7, v8, v9] t (0, 0)) := by
  have h0 : (w.setCell ⟨b, 0, none⟩ v0).heap[b]? = some (.cells #[v0, c1, c2, c3, c4, c5, c6, c7, c8, c9] t (0, 0)) := blk_set (j := 0) (u := v0) h
  have h1 : ((w.setCell ⟨b, 0, none⟩ v0).setCell ⟨b, 1, none⟩ v1).heap[b]? = some (.cells #[v0, v1, c2, c3, c4, c5, c6, c7, c8, c9] t (0, 0)) := blk_set (j := 1) (u := v1) h0
  have h2 : (((w.setCell ⟨b, 0, none⟩ v0).setCell ⟨b, 1, none⟩ v1).setCell ⟨b, 2, none⟩ v2).heap[b]? = some (.cells #[v0, v1, v2, c3, c4, c5, c6, c7, c8, c9] t (0, 0)) := blk_set (j := 2) (u := v2) h1
  have h3 : ((((w.setCell ⟨b, 0, none⟩ v0).setCell ⟨b, 1, none⟩ v1).setCell ⟨b, 2, none⟩ v2).setCell ⟨b, 3, none⟩ v3).heap[b]? = some (.cells #[v0, v1, v2, v3, c4, c5, c6, c7, c8, c9] t (0, 0)) := blk_set (j := 3) (u := v3) h2
  have h4 : (((((w.setCell ⟨b, 0, none⟩ v0).setCell ⟨b, 1, none⟩ v1).setCell ⟨b, 2, none⟩ v2).setCell ⟨b, 3, none⟩ v3).setCell ⟨b, 4, none⟩ v4).heap[b]? = some (.cells #[v0, v1, v2, v3, v4, c5, c6, c7, c8, c9] t (0, 0)) := blk_set (j := 4) (u := v4) h3
  have h5 : ((((((w.setCell ⟨b, 0, none⟩ v0).setCell ⟨b, 1, none⟩ v1).setCell ⟨b, 2, none⟩ v2).setCell ⟨b, 3, none⟩ v3).setCell ⟨b, 4, none⟩ v4).setCell ⟨b, 5, none⟩ v5).heap[b]? = some (.cells #[v0, v1, v2, v3, v4, v5, c6, c7, c8, c9] t (0, 0)) := blk_set (j := 5) (u := v5) h4
  have h6 : (((((((w.setCell ⟨b, 0, none⟩ v0).setCell ⟨b, 1, none⟩ v1).setCell ⟨b, 2, none⟩ v2).setCell ⟨b, 3, none⟩ v3).setCell ⟨b, 4, none⟩ v4).setCell ⟨b, 5, none⟩ v5).setCell ⟨b, 6, none⟩ v6).heap[b]? = some (.cells #[v0, v1, v2, v3, v4, v5, v6, c7, c8, c9] t (0, 0)) := blk_set (j := 6) (u := v6) h5
  have h7 : ((((((((w.setCell ⟨b, 0, none⟩ v0).setCell ⟨b, 1, none⟩ v1).setCell ⟨b, 2, none⟩ v2).setCell ⟨b, 3, none⟩ v3).setCell ⟨b, 4, none⟩ v4).setCell ⟨b, 5, none⟩ v5).setCell ⟨b, 6, none⟩ v6).setCell ⟨b, 7, none⟩ v7).heap[b]? = some (.cells #[v0, v1, v2, v3, v4, v5, v6, v7, c8, c9] t (0, 0)) := blk_set (j := 7) (u := v7) h6
  have h8 : (((((((((w.setCell ⟨b, 0, none⟩ v0).setCell ⟨b, 1, none⟩ v1).setCell ⟨b, 2, none⟩ v2).setCell ⟨b, 3, none⟩ v3).setCell ⟨b, 4, none⟩ v4).setCell ⟨b, 5, none⟩ v5).setCell ⟨b, 6, none⟩ v6).setCell ⟨b, 7, none⟩ v7).setCell ⟨b, 8, none⟩ v8).heap[b]? = some (.cells #[v0, v1, v2, v3, v4, v5, v6, v7, v8, c9] t (0, 0)) := blk_set (j := 8) (u := v8) h7
  have h9 : ((((((((((w.setCell ⟨b, 0, none⟩ v0).setCell ⟨b, 1, none⟩ v1).setCell ⟨b, 2, none⟩ v2).setCell ⟨b, 3, none⟩ v3).setCell ⟨b, 4, none⟩ v4).setCell ⟨b, 5, none⟩ v5).setCell ⟨b, 6, none⟩ v6).setCell ⟨b, 7, none⟩ v7).setCell ⟨b, 8, none⟩ v8).setCell ⟨b, 9, none⟩ v9).heap[b]? = some (.cells #[v0, v1, v2, v3, v4, v5, v6, v7, v8, v9] t (0, 0)) := blk_set (j := 9) (u := v9) h8
  exact h9
theorem set10_below {B : Nat} {a w : World} {b : Nat} {v0 v1 v2 v3 v4 v5 v6 v7 v8 v9 : Value} (h : Below B a w) (hb : B ≤ b) : Below B a ((((((((((w.setCell ⟨b, 0, none⟩ v0).setCell ⟨b, 1, none⟩ v1).setCell ⟨b, 2, none⟩ v2).setCell ⟨b, 3, none⟩ v3).setCell ⟨b, 4, none⟩ v4).setCell ⟨b, 5, none⟩ v5).setCell ⟨b, 6, none⟩ v6).setCell ⟨b, 7, none⟩ v7).setCell ⟨b, 8, none⟩ v8).setCell ⟨b, 9, none⟩ v9) :=
  ((((((((((h.setCell (p := ⟨b, 0, none⟩) hb v0).setCell (p := ⟨b, 1, none⟩) hb v1).setCell (p := ⟨b, 2, none⟩) hb v2).setCell (p := ⟨b, 3, none⟩) hb v3).setCell (p := ⟨b, 4, none⟩) hb v4).setCell (p := ⟨b, 5, none⟩) hb v5).setCell (p := ⟨b, 6, none⟩) hb v6).setCell (p := ⟨b, 7, none⟩) hb v7).setCell (p := ⟨b, 8, none⟩) hb v8).setCell (p := ⟨b, 9, none⟩) hb v9)
set_option maxRecDepth 8000 in
set_option maxHeartbeats 3200000 in
theorem unp_any (a : Option Addr) (n c : Nat) (l : List UInt8) (w : World) (r : RowAt w a n c 1 (l.map B)) :
    Calls Tryd.prog 12 #[.slice a n c] w (GivesU w (unpF l)) := by
  have hbm := below_made w (.cells (default : Ev).cells 25)
  have hR := heap_alloc_new w (.cells (default : Ev).cells 25)
  have r0 := r.below hbm
  have HW := Lib.hid (⟨_, rfl⟩ : ∃ w0, w.alloc (.cells (default : Ev).cells 25) = w0)
  have hln : l.length = n := by simpa using r.len
  obtain ⟨x1, hx1⟩ : ∃ x, dec l = x := ⟨_, rfl⟩
  obtain ⟨k, q, er⟩ := x1
  have d1 := dec_bd l
  rw [hx1] at d1
  simp only at d1
  obtain ⟨d11, d12, d13, d14⟩ := d1
  have HV : Hid (decV l = .tuple #[.int .u64 (k : Int), .int .i64 (q : Int), .int .i64 (er : Int)]) := Lib.hid (by unfold decV; rw [hx1])
  have HS : Hid (unpF l = _) := Lib.hid (by unfold unpF; rw [hx1])
  simp only at HS
  have m1 := r.2.2.1
  have m2 := r.2.1
  unfold maxLen at m1
  have hqn : q ≤ n := by omega
  clear hx1 hln
  by_cases he : er = 0
  · subst he
    rw [if_neg (by simp)] at HS
    obtain ⟨a', hcut, r3⟩ := cut_from slB r0 q hqn
    rw [Nat.mul_one, ← List.map_drop] at r3
    obtain ⟨v, hv⟩ : ∃ v, clampI k = v := ⟨_, rfl⟩
    rw [hv] at HS
    have hdec := fun wx hx => sdec_any v a' (n - q) (c - q) (l.drop q) wx hx
    obtain ⟨z, hz⟩ : ∃ z, sdecF v (l.drop q) = z := ⟨_, rfl⟩
    rw [hz] at hdec HS
    obtain ⟨⟨k0, k1, k2, k3, k4, k5, k6, k7, k8, k9⟩, ez⟩ := z
    simp only at HS
    unfold GivesDE Ev.val Ev.cells at hdec
    simp only at hdec
    have HD := Lib.hid hdec
    have HVV := Lib.hid hv
    clear hv hz hdec
    by_cases hez : ez = 0
    · subst hez
      rw [if_neg (by simp)] at HS
      go_enter Tryd.func12, Tryd.ntmps12
      go_upto_region 1 with (fail)
      rw [show (#[.int .i64 0, .int .i64 0, .int .i64 0, .int .i64 0, .int .i64 0, .int .i64 0, .int .i64 0, .string ⟨#[]⟩, .int .i64 0, .string ⟨#[]⟩] : Array Value) = (default : Ev).cells from rfl]
      obtain ⟨w0, hw0⟩ := HW.out
      rw [hw0] at hbm hR r0 r3 ⊢
      clear hw0 HW r
      go_wp2_with fail
      (with_reducible refine (dec_any _ _ _ l _ r0).mono ?_)
      rintro x w' ⟨rfl, rfl⟩
      rw [HV.out]
      go_wp2_with fail
      (with_reducible refine (snum_any k d11 _).mono ?_)
      rintro x w' ⟨rfl, rfl⟩
      rw [HVV.out]
      go_wp2_with fail
      (with_reducible refine (HD.out _ r3).mono ?_)
      rintro x w1 ⟨rfl, hb1⟩
      have hR1 := below_blk' hb1 hR
      have hB := below_next hbm hb1
      have hbe := below_made w1 (.cells #[.int .i64 k0, .int .i64 k1, .int .i64 k2, .int .i64 k3, .int .i64 k4, .int .i64 k5, .int .i64 k6, .string k7, .int .i64 k8, .string k9] 25)
      have hE := heap_alloc_new w1 (.cells #[.int .i64 k0, .int .i64 k1, .int .i64 k2, .int .i64 k3, .int .i64 k4, .int .i64 k5, .int .i64 k6, .string k7, .int .i64 k8, .string k9] 25)
      have hR2 := below_blk' hbe hR1
      have hB2 := below_next hB hbe
      have HW := Lib.hid (⟨_, rfl⟩ : ∃ w2, w1.alloc (.cells #[.int .i64 k0, .int .i64 k1, .int .i64 k2, .int .i64 k3, .int .i64 k4, .int .i64 k5, .int .i64 k6, .string k7, .int .i64 k8, .string k9] 25) = w2)
      clear hR r0 r3 hb1 hR1 hB hbe hbm
      go_upto_region 6 with (fail)
      obtain ⟨w2, hw2⟩ := HW.out
      rw [hw2] at hE hR2 hB2 ⊢
      clear hw2 HW
      go_wp2_with fail
      have e0 : w2.cell? ⟨w1.heap.size, 0, none⟩ = some (.int .i64 k0) := cell_blk hE rfl
      have r0 : w2.cell? ⟨w.heap.size, 0, none⟩ = some (.int .i64 0) := cell_blk hR2 rfl
      have f0 : w2.frozen? ⟨w.heap.size, 0, none⟩ = false := free_blk hR2
      have e1 : w2.cell? ⟨w1.heap.size, 1, none⟩ = some (.int .i64 k1) := cell_blk hE rfl
      have r1 : w2.cell? ⟨w.heap.size, 1, none⟩ = some (.int .i64 0) := cell_blk hR2 rfl
      have f1 : w2.frozen? ⟨w.heap.size, 1, none⟩ = false := free_blk hR2
      have e2 : w2.cell? ⟨w1.heap.size, 2, none⟩ = some (.int .i64 k2) := cell_blk hE rfl
      have r2 : w2.cell? ⟨w.heap.size, 2, none⟩ = some (.int .i64 0) := cell_blk hR2 rfl
      have f2 : w2.frozen? ⟨w.heap.size, 2, none⟩ = false := free_blk hR2
      have e3 : w2.cell? ⟨w1.heap.size, 3, none⟩ = some (.int .i64 k3) := cell_blk hE rfl
      have r3 : w2.cell? ⟨w.heap.size, 3, none⟩ = some (.int .i64 0) := cell_blk hR2 rfl
      have f3 : w2.frozen? ⟨w.heap.size, 3, none⟩ = false := free_blk hR2
      have e4 : w2.cell? ⟨w1.heap.size, 4, none⟩ = some (.int .i64 k4) := cell_blk hE rfl
      have r4 : w2.cell? ⟨w.heap.size, 4, none⟩ = some (.int .i64 0) := cell_blk hR2 rfl
      have f4 : w2.frozen? ⟨w.heap.size, 4, none⟩ = false := free_blk hR2
      have e5 : w2.cell? ⟨w1.heap.size, 5, none⟩ = some (.int .i64 k5) := cell_blk hE rfl
      have r5 : w2.cell? ⟨w.heap.size, 5, none⟩ = some (.int .i64 0) := cell_blk hR2 rfl
      have f5 : w2.frozen? ⟨w.heap.size, 5, none⟩ = false := free_blk hR2
      have e6 : w2.cell? ⟨w1.heap.size, 6, none⟩ = some (.int .i64 k6) := cell_blk hE rfl
      have r6 : w2.cell? ⟨w.heap.size, 6, none⟩ = some (.int .i64 0) := cell_blk hR2 rfl
      have f6 : w2.frozen? ⟨w.heap.size, 6, none⟩ = false := free_blk hR2
      have e7 : w2.cell? ⟨w1.heap.size, 7, none⟩ = some (.string k7) := cell_blk hE rfl
      have r7 : w2.cell? ⟨w.heap.size, 7, none⟩ = some (.string ⟨#[]⟩) := cell_blk hR2 rfl
      have f7 : w2.frozen? ⟨w.heap.size, 7, none⟩ = false := free_blk hR2
      have e8 : w2.cell? ⟨w1.heap.size, 8, none⟩ = some (.int .i64 k8) := cell_blk hE rfl
      have r8 : w2.cell? ⟨w.heap.size, 8, none⟩ = some (.int .i64 0) := cell_blk hR2 rfl
      have f8 : w2.frozen? ⟨w.heap.size, 8, none⟩ = false := free_blk hR2
      have e9 : w2.cell? ⟨w1.heap.size, 9, none⟩ = some (.string k9) := cell_blk hE rfl
      have r9 : w2.cell? ⟨w.heap.size, 9, none⟩ = some (.string ⟨#[]⟩) := cell_blk hR2 rfl
      have f9 : w2.frozen? ⟨w.heap.size, 9, none⟩ = false := free_blk hR2
      go_region
      have hR3 := set10_blk (v0 := .int .i64 k0) (v1 := .int .i64 k1) (v2 := .int .i64 k2) (v3 := .int .i64 k3) (v4 := .int .i64 k4) (v5 := .int .i64 k5) (v6 := .int .i64 k6) (v7 := .string k7) (v8 := .int .i64 k8) (v9 := .string k9) hR2
      have hB3 := set10_below (v0 := .int .i64 k0) (v1 := .int .i64 k1) (v2 := .int .i64 k2) (v3 := .int .i64 k3) (v4 := .int .i64 k4) (v5 := .int .i64 k5) (v6 := .int .i64 k6) (v7 := .string k7) (v8 := .int .i64 k8) (v9 := .string k9) hB2 (Nat.le_refl _)
      obtain ⟨w4, hw4⟩ : ∃ w4, ((((((((((w2.setCell ⟨w.heap.size, 0, none⟩ (.int .i64 k0)).setCell ⟨w.heap.size, 1, none⟩ (.int .i64 k1)).setCell ⟨w.heap.size, 2, none⟩ (.int .i64 k2)).setCell ⟨w.heap.size, 3, none⟩ (.int .i64 k3)).setCell ⟨w.heap.size, 4, none⟩ (.int .i64 k4)).setCell ⟨w.heap.size, 5, none⟩ (.int .i64 k5)).setCell ⟨w.heap.size, 6, none⟩ (.int .i64 k6)).setCell ⟨w.heap.size, 7, none⟩ (.string k7)).setCell ⟨w.heap.size, 8, none⟩ (.int .i64 k8)).setCell ⟨w.heap.size, 9, none⟩ (.string k9)) = w4 := ⟨_, rfl⟩
      rw [hw4] at hR3 hB3 ⊢
      have hR4 : w4.drew.heap[w.heap.size]? = _ := hR3
      clear hw4 hR3 hR2 hE hB2 e0 r0 f0 e1 r1 f1 e2 r2 f2 e3 r3 f3 e4 r4 f4 e5 r5 f5 e6 r6 f6 e7 r7 f7 e8 r8 f8 e9 r9 f9
      go_wp2_with fail
      refine bodyPost_ret (v := .tuple #[.int .i64 v, .agg #[.int .i64 k0, .int .i64 k1, .int .i64 k2, .int .i64 k3, .int .i64 k4, .int .i64 k5, .int .i64 k6, .string k7, .int .i64 k8, .string k9], .int .i64 0]) (ret_evU rfl rfl hR4 rfl rfl rfl) rfl ?_
      rw [HS.out]
      exact ⟨rfl, hB3.trans ((Still.one w4 1).below _)⟩
    · have hez' : (ez != 0) = true := by rw [bne_iff_ne]; exact hez
      rw [if_pos hez] at HS
      clear hez
      go_enter Tryd.func12, Tryd.ntmps12
      go_upto_region 1 with (fail)
      rw [show (#[.int .i64 0, .int .i64 0, .int .i64 0, .int .i64 0, .int .i64 0, .int .i64 0, .int .i64 0, .string ⟨#[]⟩, .int .i64 0, .string ⟨#[]⟩] : Array Value) = (default : Ev).cells from rfl]
      obtain ⟨w0, hw0⟩ := HW.out
      rw [hw0] at hbm hR r0 r3 ⊢
      clear hw0 HW r
      go_wp2_with fail
      (with_reducible refine (dec_any _ _ _ l _ r0).mono ?_)
      rintro x w' ⟨rfl, rfl⟩
      rw [HV.out]
      go_wp2_with fail
      (with_reducible refine (snum_any k d11 _).mono ?_)
      rintro x w' ⟨rfl, rfl⟩
      rw [HVV.out]
      go_wp2_with fail
      (with_reducible refine (HD.out _ r3).mono ?_)
      rintro x w1 ⟨rfl, hb1⟩
      have hR1 := below_blk' hb1 hR
      have hB := below_next hbm hb1
      have hbe := below_made w1 (.cells #[.int .i64 k0, .int .i64 k1, .int .i64 k2, .int .i64 k3, .int .i64 k4, .int .i64 k5, .int .i64 k6, .string k7, .int .i64 k8, .string k9] 25)
      have hR2 := below_blk' hbe hR1
      have hB2 := below_next hB hbe
      have HW := Lib.hid (⟨_, rfl⟩ : ∃ w2, w1.alloc (.cells #[.int .i64 k0, .int .i64 k1, .int .i64 k2, .int .i64 k3, .int .i64 k4, .int .i64 k5, .int .i64 k6, .string k7, .int .i64 k8, .string k9] 25) = w2)
      clear hR r0 r3 hb1 hR1 hB hbe hbm
      go_upto_region 6 with (fail)
      obtain ⟨w2, hw2⟩ := HW.out
      rw [hw2] at hR2 hB2 ⊢
      clear hw2 HW
      go_wp2_with (with_reducible refine wpList_store_row rfl 25 (.tmp 3) (.tmp 32) rfl w.heap.size (default : Ev).cells rfl rfl _ _ hR2 (by with_unfolding_all exact info_ev) (by with_unfolding_all exact rfl) (by with_unfolding_all exact rfl) ?_)
      refine bodyPost_ret (v := .tuple #[.int .i64 0, .agg (default : Ev).cells, .int .i64 ez]) (ret_evU rfl rfl (setRow_heap _ w.heap.size _ (default : Ev).cells _ _ hR2) rfl rfl rfl) rfl ?_
      rw [HS.out]
      exact ⟨rfl, below_row hB2 (Nat.le_refl _) _⟩
  · have he' : ((er : Int) != 0) = true := by rw [bne_iff_ne]; omega
    rw [if_pos he] at HS
    clear he
    go_enter Tryd.func12, Tryd.ntmps12
    go_upto_region 1 with (fail)
    rw [show (#[.int .i64 0, .int .i64 0, .int .i64 0, .int .i64 0, .int .i64 0, .int .i64 0, .int .i64 0, .string ⟨#[]⟩, .int .i64 0, .string ⟨#[]⟩] : Array Value) = (default : Ev).cells from rfl]
    obtain ⟨w0, hw0⟩ := HW.out
    rw [hw0] at hbm hR r0 ⊢
    clear hw0 HW r
    go_wp2_with fail
    (with_reducible refine (dec_any _ _ _ l _ r0).mono ?_)
    rintro x w' ⟨rfl, rfl⟩
    rw [HV.out]
    go_wp2_with (with_reducible refine wpList_store_row rfl 25 (.tmp 3) (.tmp 18) rfl w.heap.size (default : Ev).cells rfl rfl _ _ hR (by with_unfolding_all exact info_ev) (by with_unfolding_all exact rfl) (by with_unfolding_all exact rfl) ?_)
    refine bodyPost_ret (v := .tuple #[.int .i64 0, .agg (default : Ev).cells, .int .i64 (er : Int)]) (ret_evU rfl rfl (setRow_heap _ w.heap.size _ (default : Ev).cells _ _ hR) rfl rfl rfl) rfl ?_
    rw [HS.out]
    exact ⟨rfl, below_row hbm (Nat.le_refl _) _⟩
end Go.Proofs.YtkdpingniohfhaaDoor
