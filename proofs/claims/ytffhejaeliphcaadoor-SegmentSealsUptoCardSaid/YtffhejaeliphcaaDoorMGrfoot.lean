/-
  The walk of the reference's Footer. Conditions: the argument reads as bytes, no longer than 2^40.
-/
import Derived.Test.YtffhejaeliphcaaDoorMGfplain
import Derived.Test.YtffhejaeliphcaaDoorMGr
import Derived.Test.YtffhejaeliphcaaDoorMFrenc
import Derived.Deep.DeepCutAuto
import Derived.Deep.RegionHeld3
namespace Go.Proofs.YtffhejaeliphcaaDoor
open Go.RowKit
set_option linter.unusedVariables false

theorem cell_drew {w : World} {a : Addr} {v : Value} (h : w.cell? a = some v) : w.drew.cell? a = some v := h
set_option maxRecDepth 8000 in
set_option maxHeartbeats 6400000 in
theorem rfooter_any (a : Option Addr) (n c : Nat) (l : List UInt8) (t : Int) (w : World) (hn : n ≤ 1099511627776) (r : RowAt w a n c 1 (l.map B)) (t0 : -9223372036854775808 ≤ t) (t1 : t ≤ 9223372036854775807) :
    Calls Tryd.prog 19 #[.slice a n c, .int .i64 t] w (GivesE 5 w (footF l t)) := by
  have hln : l.length = n := by simpa using r.len
  by_cases hb : t < 1 ∨ 64 < t
  · have HR := Lib.hid (footF_arg (l := l) hb)
    have HB := Lib.hid hb
    by_cases h1 : t < 1
    · clear hb
      go_enter Tryd.func19, Tryd.ntmps19
      go_wp2_with fail
      go_ret2
      rw [HR.out]
      exact ⟨none, 0, rfl, World.ownsRow_nil _ _ _ _, Below.refl _ _⟩
    · have h2 : 64 < t := by have := HB.out; omega
      clear hb
      go_enter Tryd.func19, Tryd.ntmps19
      go_wp2_with fail
      go_ret2
      rw [HR.out]
      exact ⟨none, 0, rfl, World.ownsRow_nil _ _ _ _, Below.refl _ _⟩
  have hb1 : ¬ t < 1 := by omega
  have hb2 : ¬ 64 < t := by omega
  obtain ⟨y, hy⟩ : ∃ y, scanS l = y := ⟨_, rfl⟩
  obtain ⟨s, P, er⟩ := y
  have hsc := rscan_any a n c l _ hn r
  rw [hy] at hsc
  have HSC := Lib.hid hsc
  have HB := Lib.hid hb
  have HL := Lib.hid hln
  have HY := Lib.hid hy
  clear hsc hb hln hy
  go_enter Tryd.func19, Tryd.ntmps19
  go_wp2_with fail
  (with_reducible refine (HSC.out).mono ?_)
  rintro e w1 ⟨xs, ax, cx, am, cm, hxq, rfl, hpx, hom, hb1'⟩
  simp only at hxq hom ⊢
  have hm2 := below_made w1 (.cells (sgRow s (.slice am s.marks.length cm)) 27)
  have hg2 := World.alloc_heap_new w1 (.cells (sgRow s (.slice am s.marks.length cm)) 27)
  have hc2 := below_next hb1' hm2
  have hp2 := hpx.below hm2
  unfold sgRow at hm2 hg2 hc2 hp2 ⊢
  obtain ⟨sb, hsb⟩ : ∃ sb, s.sealed = sb := ⟨_, rfl⟩
  rw [hsb] at hm2 hg2 hc2 hp2 ⊢
  have HSB := Lib.hid hsb
  clear hom hpx hm2 hsb
  have k0 : (w1.alloc (.cells #[.int .i64 (s.num : Int), .int .i64 (s.first : Int), .int .i64 (s.count : Int), .bool sb, .int .i64 (s.stride : Int), .slice am s.marks.length cm, .int .i64 (s.good : Int)] 27)).cell? ⟨w1.heap.size, 0, none⟩ = some (.int .i64 (s.num : Int)) := cell_blk hg2 rfl
  have k1 : (w1.alloc (.cells #[.int .i64 (s.num : Int), .int .i64 (s.first : Int), .int .i64 (s.count : Int), .bool sb, .int .i64 (s.stride : Int), .slice am s.marks.length cm, .int .i64 (s.good : Int)] 27)).cell? ⟨w1.heap.size, 1, none⟩ = some (.int .i64 (s.first : Int)) := cell_blk hg2 rfl
  have k2 : (w1.alloc (.cells #[.int .i64 (s.num : Int), .int .i64 (s.first : Int), .int .i64 (s.count : Int), .bool sb, .int .i64 (s.stride : Int), .slice am s.marks.length cm, .int .i64 (s.good : Int)] 27)).cell? ⟨w1.heap.size, 2, none⟩ = some (.int .i64 (s.count : Int)) := cell_blk hg2 rfl
  have k3 : (w1.alloc (.cells #[.int .i64 (s.num : Int), .int .i64 (s.first : Int), .int .i64 (s.count : Int), .bool sb, .int .i64 (s.stride : Int), .slice am s.marks.length cm, .int .i64 (s.good : Int)] 27)).cell? ⟨w1.heap.size, 3, none⟩ = some (.bool sb) := cell_blk hg2 rfl
  have k6 : (w1.alloc (.cells #[.int .i64 (s.num : Int), .int .i64 (s.first : Int), .int .i64 (s.count : Int), .bool sb, .int .i64 (s.stride : Int), .slice am s.marks.length cm, .int .i64 (s.good : Int)] 27)).cell? ⟨w1.heap.size, 6, none⟩ = some (.int .i64 (s.good : Int)) := cell_blk hg2 rfl
  by_cases he : er = 0
  rotate_left
  · have HR := Lib.hid (footF_err HY.out HB.out he)
    have heb : ((er : Int) != 0) = true := by rw [bne_iff_ne]; omega
    go_wp2_with fail
    go_ret2
    rw [HR.out]
    exact ⟨none, 0, rfl, World.ownsRow_nil _ _ _ _, hc2⟩
  subst he
  cases sb with
  | true =>
    have HR := Lib.hid (footF_sealed HY.out HB.out HSB.out)
    go_wp2_with fail
    go_ret2
    rw [HR.out]
    exact ⟨none, 0, rfl, World.ownsRow_nil _ _ _ _, hc2⟩
  | false =>
  have hsf := HSB.out
  have HSF := Lib.hid hsf
  clear hsf
  by_cases hgd : s.good = l.length
  rotate_left
  · have HR := Lib.hid (footF_torn HY.out HB.out HSF.out hgd)
    have hgb : ((s.good : Int) != (n : Int)) = true := by rw [bne_iff_ne]; have := HL.out; omega
    clear hgd
    go_wp2_with fail
    go_ret2
    rw [HR.out]
    exact ⟨none, 0, rfl, World.ownsRow_nil _ _ _ _, hc2⟩
  have hgb : ((s.good : Int) != (n : Int)) = false := by rw [bne_eq_false_iff_eq]; have := HL.out; omega
  by_cases hct : s.count = 0
  · have HR := Lib.hid (footF_empty HY.out HB.out HSF.out hgd hct)
    have hcb : ((s.count : Int) == 0) = true := by rw [beq_iff_eq]; omega
    clear hgd hct
    go_wp2_with fail
    go_ret2
    rw [HR.out]
    exact ⟨none, 0, rfl, World.ownsRow_nil _ _ _ _, hc2⟩
  have hcb : ((s.count : Int) == 0) = false := by rw [beq_eq_false_iff_ne]; omega
  have HR := Lib.hid (footF_ok HY.out HB.out HSF.out hgd hct)
  obtain ⟨f1, f2, f3, f4, f5, f6, -⟩ := scanS_facts HY.out
  have hxl : xs.length = s.count := by rw [f5, ← hxq, List.length_map]
  obtain ⟨T, rfl⟩ : ∃ T : Nat, t = (T : Int) := ⟨t.toNat, by omega⟩
  rw [Int.toNat_natCast] at HR
  rw [hxl] at hp2 ⊢
  have HXQ := Lib.hid hxq
  have HXL := Lib.hid hxl
  obtain ⟨W2, hW2⟩ : ∃ W2, (w1.alloc (.cells #[.int .i64 (s.num : Int), .int .i64 (s.first : Int), .int .i64 (s.count : Int), .bool false, .int .i64 (s.stride : Int), .slice am s.marks.length cm, .int .i64 (s.good : Int)] 27)) = W2 := ⟨_, rfl⟩
  clear hgd hct f5 hxq hxl t0 t1 HSC r
  rw [hW2] at hg2 hc2 hp2 k0 k1 k2 k3 k6
  go_upto_region 12 with fail
  clear hW2
  have hc512 : s.count ≤ 512 := by have := (scanS_facts HY.out).2.2.2.2.1; omega
  have hpr : RowAt W2 ax s.count cx 5 ((xs.map It.pl).flatMap Pl.cells) := by
    rw [pl_cells]; exact own_rowAt (HXL.out ▸ hp2.1)
  have hbl := fun wx rx => rbuild_any ax s.count cx (xs.map It.pl) (T : Int) wx (by omega) rx (by omega)
  have hB : buildN (xs.map It.pl) (T : Int) = marksQ P T := by
    unfold buildN
    rw [if_neg (by omega), Int.toNat_natCast, pl_marks, HXQ.out]
  rw [hB] at hbl
  obtain ⟨M, hM⟩ : ∃ M, marksQ P T = M := ⟨_, rfl⟩
  rw [hM] at hbl HR
  have HBL := Lib.hid hbl
  clear hbl hB hM
  have hft := fun a' c' wx rx => rfoot_any s.first s.count T a' M.length c' M wx (by omega) (by omega) (by omega) rx
  obtain ⟨F, hF⟩ : ∃ F, footB s.first s.count T M = F := ⟨_, rfl⟩
  rw [hF] at hft HR
  have hen := fun av cv wx rx => frenc_any 3 (s.num : Int) av F.length cv F wx rx
  obtain ⟨Y, hY⟩ : ∃ Y, encF 3 (s.num : Int) F = Y := ⟨_, rfl⟩
  rw [hY] at hen HR
  obtain ⟨Y, ey⟩ := Y
  unfold GivesE at hen
  simp only at hen
  have HFT := Lib.hid hft
  have HEN := Lib.hid hen
  have hprd := rowAt_drew hpr
  clear hft hen hF hY k3 k6 hp2 hg2 hpr
  go_region_held3 (fun w' => w'.cell? ⟨w1.heap.size, 0, none⟩ = some (.int .i64 (s.num : Int)) ∧ w'.cell? ⟨w1.heap.size, 1, none⟩ = some (.int .i64 (s.first : Int)) ∧ w'.cell? ⟨w1.heap.size, 2, none⟩ = some (.int .i64 (s.count : Int)))
    (first
      | with_reducible exact ⟨cell_drew k0, cell_drew k1, cell_drew k2⟩
      | with_reducible exact ⟨j0, j1, j2⟩
      | with_reducible exact ⟨i0, i1, i2⟩
      | with_reducible exact ⟨h0, h1, h2⟩
      | fail)
    (first
      | (go_at_call 31; refine (HBL.out _ (by with_reducible exact hprd)).mono ?_; rintro e w3 ⟨a3, c3, rfl, ho3, hb3⟩; have hb3' := below_undrew hb3; have j0 := below_cell hb3' k0; have j1 := below_cell hb3' k1; have j2 := below_cell hb3' k2)
      | (go_at_call 32; refine (HFT.out _ _ _ (own_rowAt ho3)).mono ?_; rintro e w6 ⟨a6, c6, rfl, ho6, hb6⟩; have i0 := below_cell hb6 j0; have i1 := below_cell hb6 j1; have i2 := below_cell hb6 j2)
      | (go_at_call 42; refine (HEN.out _ _ _ (own_rowAt ho6)).mono ?_; rintro e w7 ⟨a7, c7, rfl, ho7, hb7⟩; have h0 := below_cell hb7 i0; have h1 := below_cell hb7 i1; have h2 := below_cell hb7 i2))
  have hb3w : Below W2.heap.size W2 w3 := hb3'
  have hbb := below_next (below_next hb3w hb6) hb7
  have hc7 := hc2.trans (hbb.mono hc2.size)
  have hsz := hc2.size
  have hs3 := hb3'.size
  have hs6 := hb6.size
  have hlow : w.heap.size ≤ w6.heap.size := by
    have h9 : W2.heap.size ≤ w3.heap.size := hs3
    omega
  go_wp2_with fail
  refine bodyPost_ret (results_tmp2 rfl _ _ _) rfl ?_
  rw [HR.out]
  exact ⟨a7, c7, rfl, own_mono ho7 hlow, hc7⟩
end Go.Proofs.YtffhejaeliphcaaDoor
