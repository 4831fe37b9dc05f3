/-
  The walk of SegmentCloses. Conditions: the argument reads as bytes; the program's table of nibbles holds what its text lays.
-/
import Derived.Test.YtffhejaeliphcaaDoorMGclos
import Derived.Test.YtffhejaeliphcaaDoorMGlay
import Derived.Test.YtffhejaeliphcaaDoorMGrclo
import Derived.Test.YtffhejaeliphcaaDoorMGb
import Derived.Test.YtffhejaeliphcaaDoorMLl
import Derived.Test.YtffhejaeliphcaaDoorMFs
import Derived.Test.YtffhejaeliphcaaDoorMIk
import Derived.Deep.RegionHeld3
namespace Go.Proofs.YtffhejaeliphcaaDoor
open Go.RowKit
set_option linter.unusedVariables false

theorem three_len : (segL 1 1 [[0], [0], [0]]).length ≤ 85 := by
  rw [segL_cons, List.length_append, Fr.bytes_len]
  have h1 : (hdrFr 1 1).body.length = 2 := by show (twoN 1 1).length = 2; decide +kernel
  have h2 : (layN (evsN 1 [[0], [0], [0]])).length = 63 := by
    simp [layN, evsN, Fr.bytes_len]
  omega
/-- The three bodies of the head, and what the reference lays of them. -/
theorem lay_three {W : World} {b : Nat} (hW : W.heap.size = b) :
    Calls Tryd.prog 22 #[.int .i64 1, .int .i64 1, .slice (some ⟨b + 1 + 1 + 1, 0, none⟩) 3 3, .int .i64 0]
      ((((W.alloc (.cells #[.int .u8 0] 5)).alloc (.cells #[.int .u8 0] 5)).alloc (.cells #[.int .u8 0] 5)).alloc (.cells #[.slice (some ⟨b, 0, none⟩) 1 1, .slice (some ⟨b + 1, 0, none⟩) 1 1, .slice (some ⟨b + 1 + 1, 0, none⟩) 1 1] 22))
      (GivesB 5 ((((W.alloc (.cells #[.int .u8 0] 5)).alloc (.cells #[.int .u8 0] 5)).alloc (.cells #[.int .u8 0] 5)).alloc (.cells #[.slice (some ⟨b, 0, none⟩) 1 1, .slice (some ⟨b + 1, 0, none⟩) 1 1, .slice (some ⟨b + 1 + 1, 0, none⟩) 1 1] 22)) (segL 1 1 [[0], [0], [0]])) := by
  subst hW
  have r0 := rowAt_lit W [.int .u8 0] 1 1 5 rfl (by decide)
  have h1 := below_made (W.alloc (.cells #[.int .u8 0] 5)) (.cells #[.int .u8 0] 5)
  have r1 := rowAt_lit (W.alloc (.cells #[.int .u8 0] 5)) [.int .u8 0] 1 1 5 rfl (by decide)
  have h2 := below_made ((W.alloc (.cells #[.int .u8 0] 5)).alloc (.cells #[.int .u8 0] 5)) (.cells #[.int .u8 0] 5)
  have r2 := rowAt_lit ((W.alloc (.cells #[.int .u8 0] 5)).alloc (.cells #[.int .u8 0] 5)) [.int .u8 0] 1 1 5 rfl (by decide)
  have h3 := below_made (((W.alloc (.cells #[.int .u8 0] 5)).alloc (.cells #[.int .u8 0] 5)).alloc (.cells #[.int .u8 0] 5)) (.cells #[.slice (some ⟨W.heap.size, 0, none⟩) 1 1, .slice (some ⟨W.heap.size + 1, 0, none⟩) 1 1, .slice (some ⟨W.heap.size + 1 + 1, 0, none⟩) 1 1] 22)
  have r3 := rowAt_lit (((W.alloc (.cells #[.int .u8 0] 5)).alloc (.cells #[.int .u8 0] 5)).alloc (.cells #[.int .u8 0] 5)) [.slice (some ⟨W.heap.size, 0, none⟩) 1 1, .slice (some ⟨W.heap.size + 1, 0, none⟩) 1 1, .slice (some ⟨W.heap.size + 1 + 1, 0, none⟩) 1 1] 3 1 22 rfl (by decide)
  have q0 := ((r0.below h1).below h2).below h3
  have q1 := (r1.below h2).below h3
  have q2 := r2.below h3
  simp only [World.size_alloc] at q1 q2 r3
  refine rlay_any 1 1 (some ⟨W.heap.size + 1 + 1 + 1, 0, none⟩) 3 3 [⟨some ⟨W.heap.size, 0, none⟩, 1, 1, [0]⟩, ⟨some ⟨W.heap.size + 1, 0, none⟩, 1, 1, [0]⟩, ⟨some ⟨W.heap.size + 1 + 1, 0, none⟩, 1, 1, [0]⟩] _ ⟨by decide, by decide, by decide, by decide, by decide, by decide, fun x hx => ?_⟩ ⟨r3, fun x hx => ?_⟩
  · simp only [List.mem_cons, List.not_mem_nil, or_false] at hx
    rcases hx with rfl | rfl | rfl <;> exact (by decide : 1 ≤ 16384)
  · simp only [List.mem_cons, List.not_mem_nil, or_false] at hx
    rcases hx with rfl | rfl | rfl
    · exact q0
    · exact q1
    · exact q2

set_option maxRecDepth 8000 in
set_option maxHeartbeats 3200000 in
theorem gcloses_walk (a : Option Addr) (n c : Nat) (l : List UInt8) (v : Value) (g : Int × Int × Int × Int) (w : World) (r : RowAt w a n c 1 (l.map B)) (hs : n * 1 ≤ 140737488351232) (hg : SegArg v g) (ht : Tab w) :
    Calls Tryd.prog 7 #[.slice a n c, v] w fun e w' => e = .returned (.bool true) ∧ Below w.heap.size w w' := by
  obtain ⟨rfl⟩ := hg
  obtain ⟨num, first, count, ft⟩ := g
  simp only
  have hml : l.length = n := by simpa using r.len
  have HL := Lib.hid hml
  clear hml
  go_enter Tryd.func7, Tryd.ntmps7
  have hb0 := below_made w (.cells #[.int .i64 num, .int .i64 first, .int .i64 count, .int .i64 ft] 58)
  have hg0 := World.alloc_heap_new w (.cells #[.int .i64 num, .int .i64 first, .int .i64 count, .int .i64 ft] 58)
  obtain ⟨w0, hw0⟩ : ∃ w0, w.alloc (.cells #[.int .i64 num, .int .i64 first, .int .i64 count, .int .i64 ft] 58) = w0 := ⟨_, rfl⟩
  rw [hw0] at hb0 hg0
  have HLT := Lib.hid (lay_three (W := w0) rfl)
  have hba : Below w0.heap.size w0 ((((w0.alloc (.cells #[.int .u8 0] 5)).alloc (.cells #[.int .u8 0] 5)).alloc (.cells #[.int .u8 0] 5)).alloc (.cells #[.slice (some ⟨w0.heap.size, 0, none⟩) 1 1, .slice (some ⟨w0.heap.size + 1, 0, none⟩) 1 1, .slice (some ⟨w0.heap.size + 1 + 1, 0, none⟩) 1 1] 22)) :=
    below_next (below_next (below_next (below_made _ _) (below_made _ _)) (below_made _ _)) (below_made _ _)
  have hsf := seal_foot (num := 1) (first := 1) (t := 2) (ls := [[0], [0], [0]]) (by decide) (by decide) (by decide) (by decide) (by decide) (by decide) (by decide) (by decide) (by decide)
  have hcf := clos_foot (num := 1) (first := 1) (t := 2) (ls := [[0], [0], [0]]) (foot := 85) (by decide) (by decide) (by decide) (by decide) (by decide) (by decide) (by decide) (by decide) (by decide) three_len
  have hml := (seg_marks (num := 1) (first := 1) (t := 2) (ls := [[0], [0], [0]]) (foot := 85) (by decide) (by decide) (by decide) (by decide) (by decide) (by decide) (by decide) three_len).2.1
  have hl3 := three_len
  obtain ⟨F, hF⟩ : ∃ F, (footFr 1 1 [[0], [0], [0]] 2).bytes = F := ⟨_, rfl⟩
  obtain ⟨L, hL⟩ : ∃ L, segL 1 1 [[0], [0], [0]] = L := ⟨_, rfl⟩
  obtain ⟨ms, hms⟩ : ∃ ms, marksQ (segPs 1 1 [[0], [0], [0]]) 2 = ms := ⟨_, rfl⟩
  rw [hF] at hsf hcf
  rw [hL] at HLT hsf hl3
  rw [hms] at hcf hml
  have hml2 : ms.length = 2 := hml
  have HSF : Hid (footF L 2 = (F, 0)) := Lib.hid hsf
  have HCF : Hid (closF F 1 1 3 85 = some (ms, 2)) := Lib.hid hcf
  have HML := Lib.hid hml2
  clear hsf hcf hml hml2 hF hL hms
  go_wp2_with fail
  (with_reducible refine (HLT.out).mono ?_)
  rintro e w1 ⟨a1, c1, rfl, ho1, hb1⟩
  have hb2 := hba.trans (hb1.mono hba.size)
  have hc1 := below_next hb0 hb2
  have hg1 := below_blk2 hb2 hg0
  have r1 := r.below hc1
  have t1 := ht.below hc1
  clear HLT hba hb1 hb0 hg0 hb2 hw0
  have hft := gfooter_any a1 L.length c1 L 2 w1 (by omega) (own_rowAt ho1) (by decide) (by decide) t1
  rw [HSF.out] at hft
  unfold GivesE at hft
  simp only at hft
  have HFT := Lib.hid hft
  clear hft ho1
  go_wp2_with fail
  (with_reducible refine (HFT.out).mono ?_)
  rintro e w2 ⟨a2, c2, rfl, ho2, hb2⟩
  have hc2 := hc1.trans (hb2.mono hc1.size)
  have hg2 := below_blk2 hb2 hg1
  have r2 := r1.below hb2
  have t2 := t1.below hb2
  have hcl := closing_any a2 F.length c2 F 1 1 3 85 w2 (own_rowAt ho2) t2
  rw [HCF.out] at hcl
  have HCL := Lib.hid hcl
  clear hcl ho2 hb2 hc1 hg1 r1 t1 HFT
  go_wp2_with fail
  (with_reducible refine (HCL.out).mono ?_)
  rintro e w3 ⟨a3, c3, rfl, ho3, hb3⟩
  rw [HML.out]
  have hc3 := hc2.trans (hb3.mono hc2.size)
  have hg3 := below_blk2 hb3 hg2
  have r3 := r2.below hb3
  have t3 := t2.below hb3
  have z0 := cls_at hg3 0 (.int .i64 num) rfl
  have z1 := cls_at hg3 1 (.int .i64 first) rfl
  have z2 := cls_at hg3 2 (.int .i64 count) rfl
  have z3 := cls_at hg3 3 (.int .i64 ft) rfl
  obtain ⟨x, hx⟩ : ∃ x, closF l num first count ft = x := ⟨_, rfl⟩
  have hr := fun wx rx => rclosing_any a n c l num first count ft wx rx
  rw [hx] at hr
  have HRC := Lib.hid hr
  have HX := Lib.hid hx
  clear HCL ho3 hb3 hc2 hg2 r2 t2 hr hx
  go_wp2_with fail
  (with_reducible refine (HRC.out _ r3).mono ?_)
  have hm : n ≤ 140737488351232 := by omega
  have HCY := Lib.hid fun wx (rx : RowAt wx a n c 1 (l.map B)) => copy_any a n c l wx (by omega) rx
  have hcg := fun (av : Option Addr) (cv : Nat) wx rx tx => closing_any av n cv l num first count ft wx rx tx
  rw [HX.out] at hcg
  have HCG := Lib.hid hcg
  clear hcg HX HRC
  cases x with
  | none =>
    rintro e w4 ⟨rfl, hb4⟩
    have hc4 := hc3.trans (hb4.mono hc3.size)
    have r4 := r3.below hb4
    have t4 := t3.below hb4
    have y0 := (World.cell?_of_block (hb4.block _ (World.block_lt_of_cell? w3 _ z0))).trans z0
    have y1 := (World.cell?_of_block (hb4.block _ (World.block_lt_of_cell? w3 _ z1))).trans z1
    have y2 := (World.cell?_of_block (hb4.block _ (World.block_lt_of_cell? w3 _ z2))).trans z2
    have y3 := (World.cell?_of_block (hb4.block _ (World.block_lt_of_cell? w3 _ z3))).trans z3
    clear z0 z1 z2 z3 r3 t3 hb4 hc3 hg3
    go_upto_region 6 with fail
    go_region_held3 (fun w' => w'.cell? ⟨w.heap.size, 0, none⟩ = some (.int .i64 num) ∧ w'.cell? ⟨w.heap.size, 1, none⟩ = some (.int .i64 first) ∧ w'.cell? ⟨w.heap.size, 2, none⟩ = some (.int .i64 count) ∧ w'.cell? ⟨w.heap.size, 3, none⟩ = some (.int .i64 ft))
      (first
        | with_reducible exact ⟨y0, y1, y2, y3⟩
        | with_reducible exact ⟨cell_drew y0, cell_drew y1, cell_drew y2, cell_drew y3⟩
        | with_reducible exact ⟨u0, u1, u2, u3⟩
        | with_reducible exact ⟨v0, v1, v2, v3⟩
        | fail)
      (first
        | (go_at_call 10; refine (HCY.out _ (by exact r4)).mono ?_; rintro e w5 ⟨a5, c5, rfl, ho5, hb5⟩; rw [HL.out] at ho5 ⊢; have hb5' := below_undrew hb5; have t5 := t4.below hb5'; have v0 := below_cell hb5' y0; have v1 := below_cell hb5' y1; have v2 := below_cell hb5' y2; have v3 := below_cell hb5' y3; have q5 := own_rowAt ho5)
        | (go_at_call 23; refine (HCG.out _ _ _ (by exact q5) (by exact t5)).mono ?_; rintro e w6 ⟨rfl, hb6⟩; have hb7 := hb5.trans (hb6.mono hb5.size); have u0 := below_cell hb6 v0; have u1 := below_cell hb6 v1; have u2 := below_cell hb6 v2; have u3 := below_cell hb6 v3))
    have hb8 := below_undrew hb7
    have hc8 := hc4.trans (hb8.mono hc4.size)
    have hsm := rmsame_any none 0 0 [] none 0 0 [] w6 (RowAt.nil _ _) (RowAt.nil _ _)
    have HSM := Lib.hid hsm
    have hc9 := hc8
    clear hsm hc8 hb8 hb7 hb6 q5 t5 hb5 hb5' ho5
    go_wp2_with fail
    (with_reducible refine (HSM.out).mono ?_)
    rintro e w7 ⟨rfl, hst⟩
    go_wp2_with fail
    go_ret
    exact ⟨by simp, below_still hc9 hst⟩
  | some y =>
    obtain ⟨mk, s⟩ := y
    rintro e w4 ⟨a4, c4, rfl, ho4, hb4⟩
    have hc4 := hc3.trans (hb4.mono hc3.size)
    have r4 := r3.below hb4
    have t4 := t3.below hb4
    have m4 := own_rowAt ho4
    have y0 := (World.cell?_of_block (hb4.block _ (World.block_lt_of_cell? w3 _ z0))).trans z0
    have y1 := (World.cell?_of_block (hb4.block _ (World.block_lt_of_cell? w3 _ z1))).trans z1
    have y2 := (World.cell?_of_block (hb4.block _ (World.block_lt_of_cell? w3 _ z2))).trans z2
    have y3 := (World.cell?_of_block (hb4.block _ (World.block_lt_of_cell? w3 _ z3))).trans z3
    clear z0 z1 z2 z3 r3 t3 hb4 hc3 hg3 ho4
    go_upto_region 6 with fail
    go_region_held3 (fun w' => w'.cell? ⟨w.heap.size, 0, none⟩ = some (.int .i64 num) ∧ w'.cell? ⟨w.heap.size, 1, none⟩ = some (.int .i64 first) ∧ w'.cell? ⟨w.heap.size, 2, none⟩ = some (.int .i64 count) ∧ w'.cell? ⟨w.heap.size, 3, none⟩ = some (.int .i64 ft))
      (first
        | with_reducible exact ⟨y0, y1, y2, y3⟩
        | with_reducible exact ⟨cell_drew y0, cell_drew y1, cell_drew y2, cell_drew y3⟩
        | with_reducible exact ⟨u0, u1, u2, u3⟩
        | with_reducible exact ⟨v0, v1, v2, v3⟩
        | fail)
      (first
        | (go_at_call 10; refine (HCY.out _ (by exact r4)).mono ?_; rintro e w5 ⟨a5, c5, rfl, ho5, hb5⟩; rw [HL.out] at ho5 ⊢; have hb5' := below_undrew hb5; have t5 := t4.below hb5'; have v0 := below_cell hb5' y0; have v1 := below_cell hb5' y1; have v2 := below_cell hb5' y2; have v3 := below_cell hb5' y3; have q5 := own_rowAt ho5)
        | (go_at_call 23; refine (HCG.out _ _ _ (by exact q5) (by exact t5)).mono ?_; rintro e w6 ⟨a6, c6, rfl, ho6, hb6⟩; have hb7 := hb5.trans (hb6.mono hb5.size); have u0 := below_cell hb6 v0; have u1 := below_cell hb6 v1; have u2 := below_cell hb6 v2; have u3 := below_cell hb6 v3))
    have hb8 := below_undrew hb7
    have hc8 := hc4.trans (hb8.mono hc4.size)
    have m8 := m4.below hb8
    have hsm := rmsame_any a6 mk.length c6 mk a4 mk.length c4 mk w6 (own_rowAt ho6) m8
    have e1 : ((s : Int) == (s : Int)) = true := by simp
    have HSM := Lib.hid hsm
    have hc9 := hc8
    clear hsm hc8 hb8 hb7 hb6 q5 t5 hb5 hb5' ho5
    go_wp2_with fail
    (with_reducible refine (HSM.out).mono ?_)
    rintro e w7 ⟨rfl, hst⟩
    go_wp2_with fail
    go_ret
    exact ⟨by simp, below_still hc9 hst⟩
end Go.Proofs.YtffhejaeliphcaaDoor
