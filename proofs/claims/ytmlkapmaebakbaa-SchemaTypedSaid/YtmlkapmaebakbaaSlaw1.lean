/-
  The walk of SchemaTyped. Condition: the argument reads as an event.
-/
import Derived.Test.YtmlkapmaebakbaaStyev
import Derived.Deep.RegionHeld3
import Derived.Deep.Cut
namespace Go.Proofs.Ytmlkapmaebakbaa
open Go.RowKit
set_option linter.unusedVariables false

theorem below_cell {w w' : World} {b o : Nat} {x : Value} (hg : Below w.heap.size w w') (hc : w.cell? ⟨b, o, none⟩ = some x) : w'.cell? ⟨b, o, none⟩ = some x := by
  have hlt := World.block_lt_of_cell? w _ hc
  rw [World.cell?_of_block (hg.block b hlt)]
  exact hc

/-- Ten cells of a block. -/
structure EvAt (w : World) (b : Nat) (x0 x1 x2 x3 x4 x5 x6 x7 x8 x9 : Value) : Prop where
  c0 : w.cell? ⟨b, 0, none⟩ = some x0
  c1 : w.cell? ⟨b, 1, none⟩ = some x1
  c2 : w.cell? ⟨b, 2, none⟩ = some x2
  c3 : w.cell? ⟨b, 3, none⟩ = some x3
  c4 : w.cell? ⟨b, 4, none⟩ = some x4
  c5 : w.cell? ⟨b, 5, none⟩ = some x5
  c6 : w.cell? ⟨b, 6, none⟩ = some x6
  c7 : w.cell? ⟨b, 7, none⟩ = some x7
  c8 : w.cell? ⟨b, 8, none⟩ = some x8
  c9 : w.cell? ⟨b, 9, none⟩ = some x9
theorem evAt {w : World} {b : Nat} {t : TypeId} {x0 x1 x2 x3 x4 x5 x6 x7 x8 x9 : Value} (h : w.heap[b]? = some (.cells #[x0, x1, x2, x3, x4, x5, x6, x7, x8, x9] t (0, 0))) : EvAt w b x0 x1 x2 x3 x4 x5 x6 x7 x8 x9 :=
  ⟨cell_blk h rfl, cell_blk h rfl, cell_blk h rfl, cell_blk h rfl, cell_blk h rfl, cell_blk h rfl, cell_blk h rfl, cell_blk h rfl, cell_blk h rfl, cell_blk h rfl⟩

section
variable (x0 x1 x2 x3 x4 x5 x6 x7 x8 x9 : Value) (wx : World)
theorem fld5 : (Instr.field 34 (.agg #[x0, x1, x2, x3, x4, x5, x6, x7, x8, x9]) 0).run Try.prog wx = .ok (.agg #[x0, x1, x2, x3, x4, x5, x6, x7]) wx := by kernel_rfl
theorem fld4 : (Instr.field 32 (.agg #[x0, x1, x2, x3, x4, x5, x6, x7]) 0).run Try.prog wx = .ok (.agg #[x0, x1, x2, x3, x4, x5, x6]) wx := by kernel_rfl
theorem fld3 : (Instr.field 30 (.agg #[x0, x1, x2, x3, x4, x5, x6]) 0).run Try.prog wx = .ok (.agg #[x0, x1, x2, x3, x4, x5]) wx := by kernel_rfl
theorem fld2 : (Instr.field 28 (.agg #[x0, x1, x2, x3, x4, x5]) 0).run Try.prog wx = .ok (.agg #[x0, x1, x2, x3, x4]) wx := by kernel_rfl
end

theorem below_blk {w w' : World} {b : Nat} {x : Obj} (hb : Below w.heap.size w w') (h : w.heap[b]? = some x) : w'.heap[b]? = some x := (hb.block _ (lt_of_block h)).trans h

set_option maxRecDepth 20000 in
set_option maxHeartbeats 6400000 in
theorem typed_walk (v : Value) (y : Ev) (w : World) (hv : v = y.val ∧ y.ok) :
    Calls Try.prog 3 #[v] w fun e w' => e = .returned (.bool true) ∧ Below w.heap.size w w' := by
  obtain ⟨rfl, hok⟩ := hv
  obtain ⟨k, o, i, q, p, c, t, u, s, n⟩ := y
  obtain ⟨⟨k0, k1⟩, ⟨o0, o1⟩, ⟨i0, i1⟩, ⟨q0, q1⟩, ⟨p0, p1⟩, ⟨c0, c1⟩, ⟨t0, t1⟩, _, ⟨s0, s1⟩, _⟩ := hok
  simp only at k0 k1 o0 o1 i0 i1 q0 q1 p0 p1 c0 c1 t0 t1 s0 s1
  have hlift := fun (e : Ev) (wx : World) => lift_any e wx
  unfold Ev.val Ev.cells at hlift ⊢
  have HLIFT := Lib.hid hlift
  clear hlift
  go_enter Try.func3, Try.ntmps3
  have hb0 := below_made w (.cells #[.int .i64 k, .int .i64 o, .int .i64 i, .int .i64 q, .int .i64 p, .int .i64 c, .int .i64 t, .string u, .int .i64 s, .string n] 24)
  have h0 := heap_alloc_new w (.cells #[.int .i64 k, .int .i64 o, .int .i64 i, .int .i64 q, .int .i64 p, .int .i64 c, .int .i64 t, .string u, .int .i64 s, .string n] 24)
  have z0 : w.heap.size < (w.alloc (.cells #[.int .i64 k, .int .i64 o, .int .i64 i, .int .i64 q, .int .i64 p, .int .i64 c, .int .i64 t, .string u, .int .i64 s, .string n] 24)).heap.size := by simp
  go_wp2_with fail
  (with_reducible refine (HLIFT.out ⟨0, 9, 0, 0, 0, 0, 0, ⟨#[]⟩, 0, ⟨#[]⟩⟩ _).mono ?_)
  rintro e w1 ⟨rfl, hb1⟩
  have k5 := fld5
  have k4 := fld4
  have k3 := fld3
  have k2 := fld2
  go_wp2_with fail
  (with_reducible refine (key_any _ _ _ _ _ _).mono ?_)
  rintro e w2 ⟨rfl, hb2⟩
  have hbx := below_next hb1 hb2
  have h2 := (hbx.block _ z0).trans h0
  have z2 : w.heap.size < w2.heap.size := by have := hbx.size; omega
  have hb3 := below_next hb0 hbx
  obtain ⟨e0, e1, e2, e3, e4, e5, e6, e7, e8, e9⟩ := evAt h2
  clear k5 k4 k3 k2 hb1 hb2 hbx h0 hb0 z0
  go_wp2_with fail
  (with_reducible refine (HLIFT.out ⟨k, o, i, q, p, c, t, u, s, n⟩ _).mono ?_)
  rintro e w3 ⟨rfl, hb4⟩
  have h3 := (hb4.block _ z2).trans h2
  have z3 : w.heap.size < w3.heap.size := by have := hb4.size; omega
  have hb5 := below_next hb3 hb4
  clear h2 z2 hb3 hb4 e0 e1 e2 e3 e4 e5 e6 e7 e8 e9
  go_upto_region 4 with (fail)
  have hbm := below_made w3 (.cells #[.int .i64 k, .int .i64 o, .int .i64 i, .int .i64 q, .int .i64 p, .int .i64 c, .int .i64 t, .string u, .int .i64 s, .string n] 34)
  have hF := heap_alloc_new w3 (.cells #[.int .i64 k, .int .i64 o, .int .i64 i, .int .i64 q, .int .i64 p, .int .i64 c, .int .i64 t, .string u, .int .i64 s, .string n] 34)
  have hE := (hbm.block _ z3).trans h3
  have hb6 := below_next hb5 hbm
  have zF : w3.heap.size < (w3.alloc (.cells #[.int .i64 k, .int .i64 o, .int .i64 i, .int .i64 q, .int .i64 p, .int .i64 c, .int .i64 t, .string u, .int .i64 s, .string n] 34)).heap.size := by simp
  obtain ⟨F, hFF⟩ : ∃ F, w3.heap.size = F := ⟨_, rfl⟩
  obtain ⟨w4, hw4⟩ : ∃ w4, w3.alloc (.cells #[.int .i64 k, .int .i64 o, .int .i64 i, .int .i64 q, .int .i64 p, .int .i64 c, .int .i64 t, .string u, .int .i64 s, .string n] 34) = w4 := ⟨_, rfl⟩
  rw [hw4] at hF hE hb6 zF ⊢
  rw [hFF] at hF zF z3 ⊢
  obtain ⟨e0, e1, e2, e3, e4, e5, e6, e7, e8, e9⟩ := evAt hE
  obtain ⟨f0, f1, f2, f3, f4, f5, f6, f7, f8, f9⟩ := evAt hF
  have hev5 := fun wx => ev5_any k o i q p c t u s n wx
  unfold Ev.val Ev.cells at hev5
  have HEV5 := Lib.hid hev5
  clear hev5 hbm hw4 hFF hb5 h3
  have hacc : Below w.heap.size w w4.drew := hb6.trans ((Still.one w4 1).below _)
  have hEc : w4.drew.heap[w.heap.size]? = some (.cells #[.int .i64 k, .int .i64 o, .int .i64 i, .int .i64 q, .int .i64 p, .int .i64 c, .int .i64 t, .string u, .int .i64 s, .string n] 24) := hE
  have hFc : w4.drew.heap[F]? = some (.cells #[.int .i64 k, .int .i64 o, .int .i64 i, .int .i64 q, .int .i64 p, .int .i64 c, .int .i64 t, .string u, .int .i64 s, .string n] 34) := hF
  obtain ⟨M, hM⟩ : ∃ M, wrap64 (q * p) = M := ⟨_, rfl⟩
  have hM2 : IntKind.i64.wrap (q * p) = M := by rw [← hM, IntKind.wrap_i64]; simp [wrap64]
  go_region_held3 (fun w' => w'.cell? ⟨w.heap.size, 0, none⟩ = some (.int .i64 k) ∧ w'.cell? ⟨w.heap.size, 1, none⟩ = some (.int .i64 o) ∧ w'.cell? ⟨w.heap.size, 2, none⟩ = some (.int .i64 i) ∧ w'.cell? ⟨w.heap.size, 3, none⟩ = some (.int .i64 q) ∧ w'.cell? ⟨w.heap.size, 4, none⟩ = some (.int .i64 p) ∧ w'.cell? ⟨w.heap.size, 5, none⟩ = some (.int .i64 c) ∧ w'.cell? ⟨w.heap.size, 6, none⟩ = some (.int .i64 t) ∧ w'.cell? ⟨w.heap.size, 7, none⟩ = some (.string u) ∧ w'.cell? ⟨w.heap.size, 8, none⟩ = some (.int .i64 s) ∧ w'.cell? ⟨w.heap.size, 9, none⟩ = some (.string n) ∧ w'.cell? ⟨F, 0, none⟩ = some (.int .i64 k) ∧ w'.cell? ⟨F, 1, none⟩ = some (.int .i64 o) ∧ w'.cell? ⟨F, 2, none⟩ = some (.int .i64 i) ∧ w'.cell? ⟨F, 3, none⟩ = some (.int .i64 q) ∧ w'.cell? ⟨F, 4, none⟩ = some (.int .i64 p) ∧ w'.cell? ⟨F, 5, none⟩ = some (.int .i64 c) ∧ w'.cell? ⟨F, 6, none⟩ = some (.int .i64 t) ∧ w'.cell? ⟨F, 7, none⟩ = some (.string u) ∧ w'.cell? ⟨F, 8, none⟩ = some (.int .i64 s) ∧ w'.cell? ⟨F, 9, none⟩ = some (.string n))
    (first
      | go_keep
      | (go_split_ands
         exact ⟨below_cell hbc (by assumption), below_cell hbc (by assumption), below_cell hbc (by assumption), below_cell hbc (by assumption), below_cell hbc (by assumption), below_cell hbc (by assumption), below_cell hbc (by assumption), below_cell hbc (by assumption), below_cell hbc (by assumption), below_cell hbc (by assumption), below_cell hbc (by assumption), below_cell hbc (by assumption), below_cell hbc (by assumption), below_cell hbc (by assumption), below_cell hbc (by assumption), below_cell hbc (by assumption), below_cell hbc (by assumption), below_cell hbc (by assumption), below_cell hbc (by assumption), below_cell hbc (by assumption)⟩))
    (first
      | (go_at_call 7; refine (HEV5.out _).mono ?_; rintro e wc ⟨rfl, hbc⟩; have hacc := below_next hacc hbc; have hEc := below_blk hbc hEc; have hFc := below_blk hbc hFc)
      | (go_at_call 6; refine (key_any _ _ _ _ _ _).mono ?_; rintro e wc ⟨rfl, hbc⟩; have hacc := below_next hacc hbc; have hEc := below_blk hbc hEc; have hFc := below_blk hbc hFc)
      | (go_at_call 8; refine (worth_any _ _ _ _ _ _).mono ?_; rintro e wc ⟨rfl, hbc⟩; have hacc := below_next hacc hbc; have hEc := below_blk hbc hEc; have hFc := below_blk hbc hFc))
  have hev4 := fun wx => ev4_any k o i q p c t u wx
  unfold Ev.val Ev.cells at hev4
  have HEV4 := Lib.hid hev4
  clear hev4
  obtain ⟨g0, g1, g2, g3, g4, g5, g6, g7, g8, g9⟩ := evAt hFc
  go_wp2_with fail
  (with_reducible refine (HEV4.out _).mono ?_)
  rintro e wv4 ⟨rfl, hbv4⟩
  clear g0 g1 g2 g3 g4 g5 g6 g7 g8 g9
  go_upto_region 7 with (fail)
  have hbm4 := below_made wv4 (.cells #[.int .i64 k, .int .i64 o, .int .i64 i, .int .i64 q, .int .i64 p, .int .i64 c, .int .i64 t, .string u, .int .i64 0, .string ⟨#[]⟩] 24)
  have acc4 := below_next (below_next hacc hbv4) hbm4
  have E4 := below_blk hbm4 (below_blk hbv4 hEc)
  have F4 := below_blk hbm4 (below_blk hbv4 hFc)
  have N4 := heap_alloc_new wv4 (.cells #[.int .i64 k, .int .i64 o, .int .i64 i, .int .i64 q, .int .i64 p, .int .i64 c, .int .i64 t, .string u, .int .i64 0, .string ⟨#[]⟩] 24)
  obtain ⟨B4, hB4⟩ : ∃ B, wv4.heap.size = B := ⟨_, rfl⟩
  obtain ⟨wn4, hwn4⟩ : ∃ wn, wv4.alloc (.cells #[.int .i64 k, .int .i64 o, .int .i64 i, .int .i64 q, .int .i64 p, .int .i64 c, .int .i64 t, .string u, .int .i64 0, .string ⟨#[]⟩] 24) = wn := ⟨_, rfl⟩
  rw [hwn4] at acc4 E4 F4 N4 ⊢
  rw [hB4] at N4 ⊢
  clear hbm4 hbv4 hwn4 hB4 hacc hEc hFc HEV4
  have hev3 := fun wx => ev3_any k o i q p c t wx
  unfold Ev.val Ev.cells at hev3
  have HEV3 := Lib.hid hev3
  clear hev3
  obtain ⟨g0, g1, g2, g3, g4, g5, g6, g7, g8, g9⟩ := evAt F4
  go_wp2_with fail
  (with_reducible refine (HEV3.out _).mono ?_)
  rintro e wv3 ⟨rfl, hbv3⟩
  clear g0 g1 g2 g3 g4 g5 g6 g7 g8 g9
  go_upto_region 8 with (fail)
  have hbm3 := below_made wv3 (.cells #[.int .i64 k, .int .i64 o, .int .i64 i, .int .i64 q, .int .i64 p, .int .i64 c, .int .i64 t, .string ⟨#[]⟩, .int .i64 0, .string ⟨#[]⟩] 24)
  have acc3 := below_next (below_next acc4 hbv3) hbm3
  have E3 := below_blk hbm3 (below_blk hbv3 E4)
  have F3 := below_blk hbm3 (below_blk hbv3 F4)
  have N3 := heap_alloc_new wv3 (.cells #[.int .i64 k, .int .i64 o, .int .i64 i, .int .i64 q, .int .i64 p, .int .i64 c, .int .i64 t, .string ⟨#[]⟩, .int .i64 0, .string ⟨#[]⟩] 24)
  have N4 := below_blk hbm3 (below_blk hbv3 N4)
  obtain ⟨B3, hB3⟩ : ∃ B, wv3.heap.size = B := ⟨_, rfl⟩
  obtain ⟨wn3, hwn3⟩ : ∃ wn, wv3.alloc (.cells #[.int .i64 k, .int .i64 o, .int .i64 i, .int .i64 q, .int .i64 p, .int .i64 c, .int .i64 t, .string ⟨#[]⟩, .int .i64 0, .string ⟨#[]⟩] 24) = wn := ⟨_, rfl⟩
  rw [hwn3] at acc3 E3 F3 N4 N3 ⊢
  rw [hB3] at N3 ⊢
  clear hbm3 hbv3 hwn3 hB3 acc4 E4 F4 HEV3
  have hev2 := fun wx => ev2_any k o i q p c wx
  unfold Ev.val Ev.cells at hev2
  have HEV2 := Lib.hid hev2
  clear hev2
  obtain ⟨g0, g1, g2, g3, g4, g5, g6, g7, g8, g9⟩ := evAt F3
  go_wp2_with fail
  (with_reducible refine (HEV2.out _).mono ?_)
  rintro e wv2 ⟨rfl, hbv2⟩
  clear g0 g1 g2 g3 g4 g5 g6 g7 g8 g9
  go_upto_region 9 with (fail)
  have hbm2 := below_made wv2 (.cells #[.int .i64 k, .int .i64 o, .int .i64 i, .int .i64 q, .int .i64 p, .int .i64 c, .int .i64 0, .string ⟨#[]⟩, .int .i64 0, .string ⟨#[]⟩] 24)
  have acc2 := below_next (below_next acc3 hbv2) hbm2
  have E2 := below_blk hbm2 (below_blk hbv2 E3)
  have F2 := below_blk hbm2 (below_blk hbv2 F3)
  have N2 := heap_alloc_new wv2 (.cells #[.int .i64 k, .int .i64 o, .int .i64 i, .int .i64 q, .int .i64 p, .int .i64 c, .int .i64 0, .string ⟨#[]⟩, .int .i64 0, .string ⟨#[]⟩] 24)
  have N4 := below_blk hbm2 (below_blk hbv2 N4)
  have N3 := below_blk hbm2 (below_blk hbv2 N3)
  obtain ⟨B2, hB2⟩ : ∃ B, wv2.heap.size = B := ⟨_, rfl⟩
  obtain ⟨wn2, hwn2⟩ : ∃ wn, wv2.alloc (.cells #[.int .i64 k, .int .i64 o, .int .i64 i, .int .i64 q, .int .i64 p, .int .i64 c, .int .i64 0, .string ⟨#[]⟩, .int .i64 0, .string ⟨#[]⟩] 24) = wn := ⟨_, rfl⟩
  rw [hwn2] at acc2 E2 F2 N4 N3 N2 ⊢
  rw [hB2] at N2 ⊢
  clear hbm2 hbv2 hwn2 hB2 acc3 E3 F3 HEV2
  have hev1 := fun wx => ev1_any k o i q p wx
  unfold Ev.val Ev.cells at hev1
  have HEV1 := Lib.hid hev1
  clear hev1
  obtain ⟨g0, g1, g2, g3, g4, g5, g6, g7, g8, g9⟩ := evAt F2
  go_wp2_with fail
  (with_reducible refine (HEV1.out _).mono ?_)
  rintro e wv1 ⟨rfl, hbv1⟩
  clear g0 g1 g2 g3 g4 g5 g6 g7 g8 g9
  go_upto_region 10 with (fail)
  have hbm1 := below_made wv1 (.cells #[.int .i64 k, .int .i64 o, .int .i64 i, .int .i64 q, .int .i64 p, .int .i64 0, .int .i64 0, .string ⟨#[]⟩, .int .i64 0, .string ⟨#[]⟩] 24)
  have acc1 := below_next (below_next acc2 hbv1) hbm1
  have E1 := below_blk hbm1 (below_blk hbv1 E2)
  have F1 := below_blk hbm1 (below_blk hbv1 F2)
  have N1 := heap_alloc_new wv1 (.cells #[.int .i64 k, .int .i64 o, .int .i64 i, .int .i64 q, .int .i64 p, .int .i64 0, .int .i64 0, .string ⟨#[]⟩, .int .i64 0, .string ⟨#[]⟩] 24)
  have N4 := below_blk hbm1 (below_blk hbv1 N4)
  have N3 := below_blk hbm1 (below_blk hbv1 N3)
  have N2 := below_blk hbm1 (below_blk hbv1 N2)
  obtain ⟨B1, hB1⟩ : ∃ B, wv1.heap.size = B := ⟨_, rfl⟩
  obtain ⟨wn1, hwn1⟩ : ∃ wn, wv1.alloc (.cells #[.int .i64 k, .int .i64 o, .int .i64 i, .int .i64 q, .int .i64 p, .int .i64 0, .int .i64 0, .string ⟨#[]⟩, .int .i64 0, .string ⟨#[]⟩] 24) = wn := ⟨_, rfl⟩
  rw [hwn1] at acc1 E1 F1 N4 N3 N2 N1 ⊢
  rw [hB1] at N1 ⊢
  clear hbm1 hbv1 hwn1 hB1 acc2 E2 F2 HEV1
  obtain ⟨g0, g1, g2, g3, g4, g5, g6, g7, g8, g9⟩ := evAt E1
  have hA : ∀ (b : Nat) (x : Obj) (ob : Obj), wn1.heap[b]? = some x → (wn1.alloc ob).heap[b]? = some x := fun b x ob h => below_blk (below_made wn1 ob) h
  have HA := Lib.hid hA
  clear hA
  have qE10 : ∀ ob, (wn1.alloc ob).cell? ⟨w.heap.size, 0, none⟩ = some (.int .i64 k) := fun ob => cell_blk (HA.out _ _ ob E1) rfl
  have qE15 : ∀ ob, (wn1.alloc ob).cell? ⟨w.heap.size, 5, none⟩ = some (.int .i64 c) := fun ob => cell_blk (HA.out _ _ ob E1) rfl
  have qE16 : ∀ ob, (wn1.alloc ob).cell? ⟨w.heap.size, 6, none⟩ = some (.int .i64 t) := fun ob => cell_blk (HA.out _ _ ob E1) rfl
  have qF10 : ∀ ob, (wn1.alloc ob).cell? ⟨F, 0, none⟩ = some (.int .i64 k) := fun ob => cell_blk (HA.out _ _ ob F1) rfl
  have qF15 : ∀ ob, (wn1.alloc ob).cell? ⟨F, 5, none⟩ = some (.int .i64 c) := fun ob => cell_blk (HA.out _ _ ob F1) rfl
  have qF16 : ∀ ob, (wn1.alloc ob).cell? ⟨F, 6, none⟩ = some (.int .i64 t) := fun ob => cell_blk (HA.out _ _ ob F1) rfl
  go_wp2_with (first
    | (with_reducible refine wpList_load_row rfl 24 (.tmp 4) rfl B4 rfl _ #[.int .i64 k, .int .i64 o, .int .i64 i, .int .i64 q, .int .i64 p, .int .i64 c, .int .i64 t, .string u, .int .i64 0, .string ⟨#[]⟩] (0, 0) _ (HA.out _ _ _ N4) Try.underlying24 rfl (by with_unfolding_all exact info_ev) ?_)
    | (with_reducible refine wpList_load_row rfl 24 (.tmp 5) rfl B3 rfl _ #[.int .i64 k, .int .i64 o, .int .i64 i, .int .i64 q, .int .i64 p, .int .i64 c, .int .i64 t, .string ⟨#[]⟩, .int .i64 0, .string ⟨#[]⟩] (0, 0) _ (HA.out _ _ _ N3) Try.underlying24 rfl (by with_unfolding_all exact info_ev) ?_)
    | (with_reducible refine wpList_load_row rfl 24 (.tmp 6) rfl B2 rfl _ #[.int .i64 k, .int .i64 o, .int .i64 i, .int .i64 q, .int .i64 p, .int .i64 c, .int .i64 0, .string ⟨#[]⟩, .int .i64 0, .string ⟨#[]⟩] (0, 0) _ (HA.out _ _ _ N2) Try.underlying24 rfl (by with_unfolding_all exact info_ev) ?_)
    | (with_reducible refine wpList_load_row rfl 24 (.tmp 7) rfl B1 rfl _ #[.int .i64 k, .int .i64 o, .int .i64 i, .int .i64 q, .int .i64 p, .int .i64 0, .int .i64 0, .string ⟨#[]⟩, .int .i64 0, .string ⟨#[]⟩] (0, 0) _ (HA.out _ _ _ N1) Try.underlying24 rfl (by with_unfolding_all exact info_ev) ?_))
  go_ret
  exact ⟨rfl, below_next acc1 (below_made _ _)⟩
end Go.Proofs.Ytmlkapmaebakbaa
