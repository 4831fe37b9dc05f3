/-
  The walk of the body of a footer, by the program. Conditions: the numbers are small; the marks read as marks.
  The walk of segment.Footer. Conditions: the argument reads as bytes, no longer than 2^40; the program's table of nibbles holds what its text lays.
-/
import Derived.Test.YtffhejaeliphcaaDoorMGsc
import Derived.Test.YtffhejaeliphcaaDoorMHw
import Derived.Test.YtffhejaeliphcaaDoorMGt
import Derived.Test.YtffhejaeliphcaaDoorMGscan
import Derived.Deep.DeepCutAuto
import Derived.Deep.RegionHeld3
namespace Go.Proofs.YtffhejaeliphcaaDoor
open Go.RowKit
set_option linter.unusedVariables false

theorem nums_three (a b c : Nat) (X : List UInt8) : numsN [a, b, c] ++ X = twoN a b ++ enc c ++ X := by simp [numsN, twoN]

set_option maxHeartbeats 1600000 in
theorem gbody_any (y cnt t : Nat) (a : Option Addr) (n c : Nat) (ms : List Mk) (w : World) (hy : y ≤ 2199023255552) (hc : cnt ≤ 2199023255552) (ht : t ≤ 2199023255552) (r : RowAt w a n c 2 (ms.flatMap Mk.cells)) :
    Calls Tryd.prog 43 #[.agg (clRow y cnt t (.slice a n c))] w (GivesB 5 w (footB y cnt t ms)) := by
  have hm1 := below_made w (.cells (clRow y cnt t (.slice a n c)) 84)
  have hg1 := World.alloc_heap_new w (.cells (clRow y cnt t (.slice a n c)) 84)
  have r1 := r.below hm1
  have hx := encIx_bd ms
  obtain ⟨X, hX⟩ : ∃ X, encIx ms = X := ⟨_, rfl⟩
  have hi := ienc_any a n c ms _ r1
  rw [hX] at hi hx
  obtain ⟨X, ex⟩ := X
  simp only at hx
  have HX := Lib.hid hX
  have HI := Lib.hid hi
  unfold clRow at hm1 hg1 HI ⊢
  have hu : ∀ u ∈ [y, cnt, t], u < 9223372036854775808 := by
    intro u h
    simp at h
    omega
  have hnl := numsN_len [y, cnt, t] hu
  obtain ⟨N, hN⟩ : ∃ N, numsN [y, cnt, t] = N := ⟨_, rfl⟩
  rw [hN] at hnl
  have hnl2 : N.length ≤ 30 := hnl
  have HN := Lib.hid hN
  have HU := Lib.hid hu
  clear hi hX r r1 hN hnl hu
  have k0 : (w.alloc (.cells #[.int .i64 (y : Int), .int .i64 (cnt : Int), .int .i64 (t : Int), .slice a n c] 84)).cell? ⟨w.heap.size, 3, none⟩ = some (.slice a n c) := cell_blk hg1 rfl
  go_enter Tryd.func43, Tryd.ntmps43
  go_wp2_with fail
  (with_reducible refine (HI.out).mono ?_)
  rintro e w2 ⟨a2, c2, rfl, ho2, hb2⟩
  simp only at ho2 ⊢
  have hg2 := below_blk2 hb2 hg1
  have hc2 := below_next hm1 hb2
  have j0 : w2.cell? ⟨w.heap.size, 0, none⟩ = some (.int .i64 (y : Int)) := cell_blk hg2 rfl
  have j1 : w2.cell? ⟨w.heap.size, 1, none⟩ = some (.int .i64 (cnt : Int)) := cell_blk hg2 rfl
  have j2 : w2.cell? ⟨w.heap.size, 2, none⟩ = some (.int .i64 (t : Int)) := cell_blk hg2 rfl
  have rs := rowAt_lit w2 [I y, I cnt, I t] 3 1 3 rfl (by decide)
  have hm3 := below_made w2 (.cells #[.int .i64 (y : Int), .int .i64 (cnt : Int), .int .i64 (t : Int)] 3)
  have hnm := nums_any (some ⟨w2.heap.size, 0, none⟩) 3 3 [y, cnt, t] (w2.alloc (.cells #[.int .i64 (y : Int), .int .i64 (cnt : Int), .int .i64 (t : Int)] 3)) HU.out (by decide) rs
  rw [HN.out] at hnm
  have HNM := Lib.hid hnm
  have hlt := ho2.lt
  have hs1 := hm1.size
  have hsc := hc2.size
  clear hnm rs hb2 hg1 hg2 k0
  go_wp2_with fail
  (with_reducible refine (HNM.out).mono ?_)
  rintro e w4 ⟨a4, c4, rfl, ho4, hb4⟩
  have hb5 := below_next hm3 hb4
  have ho5 := own_below ho2 hb5
  have hc5 := below_next hc2 hb5
  have hs4 := hb4.size
  clear j0 j1 j2 hb4 hc2 hm3 HNM ho2
  go_wp2_with (at_builtin; refine wpList_app rfl _ _ 22 rfl slB rfl ho4 rfl (own_rowAt ho5) (B_one _) (by omega) hs4 fun a6 c6 w6 ho6 hg6 => ?_)
  go_ret
  have e : footB y cnt t ms = N ++ X := by unfold footB; rw [HX.out, ← nums_three, HN.out]
  have hs9 : w.heap.size ≤ (w2.alloc (.cells #[.int .i64 (y : Int), .int .i64 (cnt : Int), .int .i64 (t : Int)] 3)).heap.size := by simp; omega
  refine ⟨a6, c6, ?_, ?_, hc5.grown hg6 hc5.size (fun k hk => by have := own_block ho4 k hk; omega)⟩
  · rw [e, List.length_append]; rfl
  · rw [e, List.length_append, List.map_append]; exact own_mono ho6 hs9
end Go.Proofs.YtffhejaeliphcaaDoor

namespace Go.Proofs.YtffhejaeliphcaaDoor
open Go.RowKit
set_option linter.unusedVariables false

theorem ne_grow {n b : Nat} {w w' : World} (h : b < w.heap.size) (hb : Below n w w') : b ≠ w'.heap.size := by have := hb.size; omega
theorem cell_drew {w : World} {a : Addr} {v : Value} (h : w.cell? a = some v) : w.drew.cell? a = some v := h
theorem frz_blk {w : World} {b : Nat} {cs : Array Value} {t : TypeId} (h : w.heap[b]? = some (.cells cs t (0, 0))) (j : Nat) : w.frozen? ⟨b, j, none⟩ = false := by unfold World.frozen?; simp [h]
theorem cls_blk {w : World} {b : Nat} {cs : Array Value} {t : TypeId} (h : w.heap[b]? = some (.cells cs t (0, 0))) (j : Nat) (v : Value) (hv : cs[j]? = some v) : w.cell? ⟨b, j, none⟩ = some v := cell_blk h hv
theorem al_cell {w : World} {o : Obj} {a : Addr} {v : Value} (h : w.cell? a = some v) : (w.alloc o).cell? a = some v := (World.cell?_of_block (Below.heap_alloc w o _ (World.block_lt_of_cell? w _ h))).trans h
theorem ne_of_lt_cell {w : World} {a : Addr} {v : Value} (h : w.cell? a = some v) : a.block ≠ w.heap.size := Nat.ne_of_lt (World.block_lt_of_cell? w _ h)

set_option maxRecDepth 8000 in
set_option maxHeartbeats 6400000 in
theorem gfooter_any (a : Option Addr) (n c : Nat) (l : List UInt8) (t : Int) (w : World) (hn : n ≤ 1099511627776) (r : RowAt w a n c 1 (l.map B)) (t0 : -9223372036854775808 ≤ t) (t1 : t ≤ 9223372036854775807) (ht : Tab w) :
    Calls Tryd.prog 20 #[.slice a n c, .int .i64 t] w (GivesE 5 w (footF l t)) := by
  have hln : l.length = n := by simpa using r.len
  by_cases hb : t < 1 ∨ 64 < t
  · have HR := Lib.hid (footF_arg (l := l) hb)
    have HB := Lib.hid hb
    by_cases h1 : t < 1
    · clear hb
      go_enter Tryd.func20, Tryd.ntmps20
      go_wp2_with fail
      go_ret2
      rw [HR.out]
      exact ⟨none, 0, rfl, World.ownsRow_nil _ _ _ _, Below.refl _ _⟩
    · have h2 : 64 < t := by have := HB.out; omega
      clear hb
      go_enter Tryd.func20, Tryd.ntmps20
      go_wp2_with fail
      go_ret2
      rw [HR.out]
      exact ⟨none, 0, rfl, World.ownsRow_nil _ _ _ _, Below.refl _ _⟩
  have hb1 : ¬ t < 1 := by omega
  have hb2 : ¬ 64 < t := by omega
  obtain ⟨y, hy⟩ : ∃ y, scanS l = y := ⟨_, rfl⟩
  obtain ⟨s, P, er⟩ := y
  have hsc := sscan_any a n c l _ hn r ht
  rw [hy] at hsc
  have HSC := Lib.hid hsc
  have HB := Lib.hid hb
  have HL := Lib.hid hln
  have HY := Lib.hid hy
  clear hsc hb hln hy
  go_enter Tryd.func20, Tryd.ntmps20
  go_wp2_with fail
  (with_reducible refine (HSC.out).mono ?_)
  rintro e w1 ⟨xs, ax, cx, am, cm, hxq, rfl, hpx, hom, hb1'⟩
  simp only at hxq hom ⊢
  have hm2 := below_made w1 (.cells (sgRow s (.slice am s.marks.length cm)) 27)
  have hg2 := World.alloc_heap_new w1 (.cells (sgRow s (.slice am s.marks.length cm)) 27)
  have hc2 := below_next hb1' hm2
  have hp2 := hpx.below hm2
  have t2 := ht.below hc2
  unfold sgRow at hm2 hg2 hc2 hp2 t2 ⊢
  obtain ⟨sb, hsb⟩ : ∃ sb, s.sealed = sb := ⟨_, rfl⟩
  rw [hsb] at hm2 hg2 hc2 hp2 t2 ⊢
  have HSB := Lib.hid hsb
  clear hom hpx hm2 hsb
  have k0 : (w1.alloc (.cells #[.int .i64 (s.num : Int), .int .i64 (s.first : Int), .int .i64 (s.count : Int), .bool sb, .int .i64 (s.stride : Int), .slice am s.marks.length cm, .int .i64 (s.good : Int)] 27)).cell? ⟨w1.heap.size, 0, none⟩ = some (.int .i64 (s.num : Int)) := cell_blk hg2 rfl
  have k1 : (w1.alloc (.cells #[.int .i64 (s.num : Int), .int .i64 (s.first : Int), .int .i64 (s.count : Int), .bool sb, .int .i64 (s.stride : Int), .slice am s.marks.length cm, .int .i64 (s.good : Int)] 27)).cell? ⟨w1.heap.size, 1, none⟩ = some (.int .i64 (s.first : Int)) := cell_blk hg2 rfl
  have k2 : (w1.alloc (.cells #[.int .i64 (s.num : Int), .int .i64 (s.first : Int), .int .i64 (s.count : Int), .bool sb, .int .i64 (s.stride : Int), .slice am s.marks.length cm, .int .i64 (s.good : Int)] 27)).cell? ⟨w1.heap.size, 2, none⟩ = some (.int .i64 (s.count : Int)) := cell_blk hg2 rfl
  have k3 : (w1.alloc (.cells #[.int .i64 (s.num : Int), .int .i64 (s.first : Int), .int .i64 (s.count : Int), .bool sb, .int .i64 (s.stride : Int), .slice am s.marks.length cm, .int .i64 (s.good : Int)] 27)).cell? ⟨w1.heap.size, 3, none⟩ = some (.bool sb) := cell_blk hg2 rfl
  have k6 : (w1.alloc (.cells #[.int .i64 (s.num : Int), .int .i64 (s.first : Int), .int .i64 (s.count : Int), .bool sb, .int .i64 (s.stride : Int), .slice am s.marks.length cm, .int .i64 (s.good : Int)] 27)).cell? ⟨w1.heap.size, 6, none⟩ = some (.int .i64 (s.good : Int)) := cell_blk hg2 rfl
  by_cases he : er = 0
  rotate_left
  · have HR := Lib.hid (footF_err HY.out HB.out he)
    have heb : ((er : Int) != 0) = true := by rw [bne_iff_ne]; omega
    go_wp2_with fail
    go_ret2
    rw [HR.out]
    exact ⟨none, 0, rfl, World.ownsRow_nil _ _ _ _, hc2⟩
  subst he
  cases sb with
  | true =>
    have HR := Lib.hid (footF_sealed HY.out HB.out HSB.out)
    go_wp2_with fail
    go_ret2
    rw [HR.out]
    exact ⟨none, 0, rfl, World.ownsRow_nil _ _ _ _, hc2⟩
  | false =>
  have hsf := HSB.out
  have HSF := Lib.hid hsf
  clear hsf
  by_cases hgd : s.good = l.length
  rotate_left
  · have HR := Lib.hid (footF_torn HY.out HB.out HSF.out hgd)
    have hgb : ((s.good : Int) != (n : Int)) = true := by rw [bne_iff_ne]; have := HL.out; omega
    clear hgd
    go_wp2_with fail
    go_ret2
    rw [HR.out]
    exact ⟨none, 0, rfl, World.ownsRow_nil _ _ _ _, hc2⟩
  have hgb : ((s.good : Int) != (n : Int)) = false := by rw [bne_eq_false_iff_eq]; have := HL.out; omega
  by_cases hct : s.count = 0
  · have HR := Lib.hid (footF_empty HY.out HB.out HSF.out hgd hct)
    have hcb : ((s.count : Int) == 0) = true := by rw [beq_iff_eq]; omega
    clear hgd hct
    go_wp2_with fail
    go_ret2
    rw [HR.out]
    exact ⟨none, 0, rfl, World.ownsRow_nil _ _ _ _, hc2⟩
  have hcb : ((s.count : Int) == 0) = false := by rw [beq_eq_false_iff_ne]; omega
  have HR := Lib.hid (footF_ok HY.out HB.out HSF.out hgd hct)
  obtain ⟨f1, f2, f3, f4, f5, f6, -⟩ := scanS_facts HY.out
  have hxl : xs.length = s.count := by rw [f5, ← hxq, List.length_map]
  obtain ⟨T, rfl⟩ : ∃ T : Nat, t = (T : Int) := ⟨t.toNat, by omega⟩
  rw [Int.toNat_natCast] at HR
  rw [hxl] at hp2 ⊢
  have HXQ := Lib.hid hxq
  have HXL := Lib.hid hxl
  obtain ⟨W2, hW2⟩ : ∃ W2, (w1.alloc (.cells #[.int .i64 (s.num : Int), .int .i64 (s.first : Int), .int .i64 (s.count : Int), .bool false, .int .i64 (s.stride : Int), .slice am s.marks.length cm, .int .i64 (s.good : Int)] 27)) = W2 := ⟨_, rfl⟩
  clear hgd hct f5 hxq hxl t0 t1 HSC r
  rw [hW2] at hg2 hc2 hp2 k0 k1 k2 k3 k6 t2
  go_upto_region 12 with fail
  clear hW2
  have hc512 : s.count ≤ 512 := by have := (scanS_facts HY.out).2.2.2.2.1; omega
  have hpr : RowAt W2 ax s.count cx 5 ((xs.map It.pl).flatMap Pl.cells) := by
    rw [pl_cells]; exact own_rowAt (HXL.out ▸ hp2.1)
  have hbl := fun wx rx => build_any ax s.count cx (xs.map It.pl) (T : Int) wx (by omega) rx (by omega)
  have hB : buildN (xs.map It.pl) (T : Int) = marksQ P T := by
    unfold buildN
    rw [if_neg (by omega), Int.toNat_natCast, pl_marks, HXQ.out]
  rw [hB] at hbl
  obtain ⟨M, hM⟩ : ∃ M, marksQ P T = M := ⟨_, rfl⟩
  rw [hM] at hbl HR
  have HBL := Lib.hid hbl
  clear hbl hB hM
  go_cut [9] (fun sv wx => ∃ g am' cm', sv = .pointer (some ⟨g, 0, none⟩) ∧ wx.heap[g]? = some (.cells #[.int .i64 (s.first : Int), .int .i64 (s.count : Int), .int .i64 (T : Int), .slice am' M.length cm'] 84 (0, 0)) ∧ RowAt wx am' M.length cm' 2 (M.flatMap Mk.cells) ∧ Below W2.heap.size W2 wx)
  case first =>
    have hmZ := below_made W2 (.cells #[.int .i64 0, .int .i64 0, .int .i64 0, .slice none 0 0] 84)
    have hgZ := World.alloc_heap_new W2 (.cells #[.int .i64 0, .int .i64 0, .int .i64 0, .slice none 0 0] 84)
    have hprZd := rowAt_drew (hpr.below hmZ)
    have hprd := rowAt_drew hpr
    clear hpr
    have hlt1 := lt_of_block hg2
    have hneW : w1.heap.size ≠ W2.heap.size := by omega
    go_region_held3 (fun w' => w'.cell? ⟨w1.heap.size, 1, none⟩ = some (.int .i64 (s.first : Int)) ∧ w'.cell? ⟨w1.heap.size, 2, none⟩ = some (.int .i64 (s.count : Int)))
      (first
        | with_reducible exact ⟨k1, k2⟩
        | with_reducible exact ⟨cell_drew (k1), cell_drew (k2)⟩
        | with_reducible exact ⟨al_cell k1, al_cell k2⟩
        | with_reducible exact ⟨cell_drew (al_cell k1), cell_drew (al_cell k2)⟩
        | with_reducible exact ⟨j1, j2⟩
        | with_reducible exact ⟨cell_drew (j1), cell_drew (j2)⟩
        | with_reducible exact ⟨al_cell j1, al_cell j2⟩
        | with_reducible exact ⟨cell_drew (al_cell j1), cell_drew (al_cell j2)⟩
        | with_reducible exact ⟨cell_oth hne3 (cell_oth hne3 (cell_oth hne3 (cell_oth hne3 (j1)))), cell_oth hne3 (cell_oth hne3 (cell_oth hne3 (cell_oth hne3 (j2))))⟩
        | with_reducible exact ⟨cell_drew (cell_oth hne3 (cell_oth hne3 (cell_oth hne3 (cell_oth hne3 (j1))))), cell_drew (cell_oth hne3 (cell_oth hne3 (cell_oth hne3 (cell_oth hne3 (j2)))))⟩
        | with_reducible exact ⟨cell_oth hne3 (cell_oth hne3 (cell_oth hne3 (cell_oth hne3 (al_cell j1)))), cell_oth hne3 (cell_oth hne3 (cell_oth hne3 (cell_oth hne3 (al_cell j2))))⟩
        | with_reducible exact ⟨cell_drew (cell_oth hne3 (cell_oth hne3 (cell_oth hne3 (cell_oth hne3 (al_cell j1))))), cell_drew (cell_oth hne3 (cell_oth hne3 (cell_oth hne3 (cell_oth hne3 (al_cell j2)))))⟩
        | fail)
      (first
        | (go_at_call 37; refine (HBL.out _ (by with_reducible exact hprZd)).mono ?_; rintro e w3 ⟨a3, c3, rfl, ho3, hb3⟩; have hb3z := below_undrew hb3; have hb3' := below_next hmZ hb3z; have j1 := below_cell hb3' k1; have j2 := below_cell hb3' k2; have hz3 := below_blk2 hb3z hgZ; have hne3 := hneW; have z0 : w3.frozen? ⟨W2.heap.size, 0, none⟩ = false := frz_blk hz3 0; have z1 : w3.frozen? ⟨W2.heap.size, 1, none⟩ = false := frz_blk hz3 1; have z2 : w3.frozen? ⟨W2.heap.size, 2, none⟩ = false := frz_blk hz3 2; have z3 : w3.frozen? ⟨W2.heap.size, 3, none⟩ = false := frz_blk hz3 3; have y0 := cls_blk hz3 0 (.int .i64 0) rfl; have y1 := cls_blk hz3 1 (.int .i64 0) rfl; have y2 := cls_blk hz3 2 (.int .i64 0) rfl; have y3 := cls_blk hz3 3 (.slice none 0 0) rfl)
        | (go_at_call 37; refine (HBL.out _ (by with_reducible exact hprd)).mono ?_; rintro e w3 ⟨a3, c3, rfl, ho3, hb3⟩; have hb3' := below_undrew hb3; have j1 := below_cell hb3' k1; have j2 := below_cell hb3' k2; have hne3 := ne_grow hlt1 hb3'))
    · go_wp2_with fail
      go_meet
      have hm9 := below_made w3 (.cells #[.int .i64 (s.first : Int), .int .i64 (s.count : Int), .int .i64 (T : Int), .slice a3 M.length c3] 84)
      exact ⟨w3.heap.size, a3, c3, rfl, World.alloc_heap_new _ _, (own_rowAt ho3).below hm9, below_next hb3' hm9⟩
    · go_wp2_with fail
      go_meet
      obtain ⟨q1, q2⟩ := four_set hz3 (.int .i64 (s.first : Int)) (.int .i64 (s.count : Int)) (.int .i64 (T : Int)) (.slice a3 M.length c3)
      refine ⟨W2.heap.size, a3, c3, rfl, q1, ?_, ?_⟩
      · have hq := own_on (W' := ((((w3.setCell ⟨W2.heap.size, 0, none⟩ (.int .i64 (s.first : Int))).setCell ⟨W2.heap.size, 1, none⟩ (.int .i64 (s.count : Int))).setCell ⟨W2.heap.size, 2, none⟩ (.int .i64 (T : Int))).setCell ⟨W2.heap.size, 3, none⟩ (.slice a3 M.length c3))) ho3 fun g cs _ hb hw => (q2.block g (lt_of_block hw) fun e => by
          have h1 := Option.some.inj e
          have h2 : (W2.alloc (.cells #[.int .i64 0, .int .i64 0, .int .i64 0, .slice none 0 0] 84)).heap.size ≤ g := hb
          rw [World.size_alloc] at h2
          omega).trans hw
        exact own_rowAt hq
      · have h5 := hb3'.grown q2 hb3'.size (fun k e => by cases e; exact Nat.le_refl _)
        exact ⟨h5.os, h5.tape, h5.output, h5.size, h5.block⟩
  case rest =>
    obtain ⟨g, am', cm', rfl, hgc, hrm, hb5⟩ := hcut
    have k5 := below_cell hb5 k0
    have t5 := t2.below hb5
    have hc5 := hc2.trans (hb5.mono hc2.size)
    have hby := fun wx rx => gbody_any s.first s.count T am' M.length cm' M wx (by omega) (by omega) (by omega) rx
    have hFl := footB_len s.first s.count T M (by omega) (by omega) (by omega)
    obtain ⟨F, hF⟩ : ∃ F, footB s.first s.count T M = F := ⟨_, rfl⟩
    rw [hF] at hby hFl HR
    have hen := fun av cv wx rx tx => fenc_any 3 (s.num : Int) av F.length cv F wx rx tx
    obtain ⟨Y, hY⟩ : ∃ Y, encF 3 (s.num : Int) F = Y := ⟨_, rfl⟩
    rw [hY] at hen HR
    obtain ⟨Y, ey⟩ := Y
    unfold GivesE at hen
    simp only at hen
    have HBY := Lib.hid hby
    have HEN := Lib.hid hen
    have g0 : wc.cell? ⟨g, 0, none⟩ = some (.int .i64 (s.first : Int)) := cell_blk hgc rfl
    have g1 : wc.cell? ⟨g, 1, none⟩ = some (.int .i64 (s.count : Int)) := cell_blk hgc rfl
    have g2 : wc.cell? ⟨g, 2, none⟩ = some (.int .i64 (T : Int)) := cell_blk hgc rfl
    have g3 : wc.cell? ⟨g, 3, none⟩ = some (.slice am' M.length cm') := cell_blk hgc rfl
    unfold clRow at HBY
    clear hby hen hF hY hFl k1 k2 k3 k6 k0 t2 hc2 hp2 hg2 hpr HBL hb5 hgc
    go_wp2_with fail
    go_region_held3 (fun w' => w'.cell? ⟨w1.heap.size, 0, none⟩ = some (.int .i64 (s.num : Int)) ∧ w'.cell? ⟨g, 0, none⟩ = some (.int .i64 (s.first : Int)) ∧ w'.cell? ⟨g, 1, none⟩ = some (.int .i64 (s.count : Int)) ∧ w'.cell? ⟨g, 2, none⟩ = some (.int .i64 (T : Int)) ∧ w'.cell? ⟨g, 3, none⟩ = some (.slice am' M.length cm'))
      (first
        | with_reducible exact ⟨cell_drew k5, cell_drew g0, cell_drew g1, cell_drew g2, cell_drew g3⟩
        | with_reducible exact ⟨i5, i0, i1, i2, i3⟩
        | with_reducible exact ⟨h5, h0, h1, h2, h3⟩
        | fail)
      (first
        | (go_at_call 43; refine (HBY.out _ (by exact hrm)).mono ?_; rintro e w6 ⟨a6, c6, rfl, ho6, hb6⟩; have hb6' := below_undrew hb6; have i5 := below_cell hb6' k5; have i0 := below_cell hb6' g0; have i1 := below_cell hb6' g1; have i2 := below_cell hb6' g2; have i3 := below_cell hb6' g3; have t6 := t5.below hb6')
        | (go_at_call 39; refine (HEN.out _ _ _ (own_rowAt ho6) (by exact t6)).mono ?_; rintro e w7 ⟨a7, c7, rfl, ho7, hb7⟩; have h5 := below_cell hb7 i5; have h0 := below_cell hb7 i0; have h1 := below_cell hb7 i1; have h2 := below_cell hb7 i2; have h3 := below_cell hb7 i3))
    have hc7 := hc5.trans ((below_next hb6' hb7).mono hc5.size)
    have hsz := hc5.size
    have hs6 := hb6'.size
    have hlow : w.heap.size ≤ w6.heap.size := by
      have h9 : wc.heap.size ≤ w6.heap.size := hs6
      omega
    go_wp2_with fail
    refine bodyPost_ret (results_tmp2 rfl _ _ _) rfl ?_
    rw [HR.out]
    exact ⟨a7, c7, rfl, own_mono ho7 hlow, hc7⟩
end Go.Proofs.YtffhejaeliphcaaDoor
