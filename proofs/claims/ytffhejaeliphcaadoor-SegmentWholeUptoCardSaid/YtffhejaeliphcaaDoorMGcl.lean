/-
  The walk of segment's unclose. Condition: the argument reads as bytes.
-/
import Derived.Test.YtffhejaeliphcaaDoorMGs
import Derived.Test.YtffhejaeliphcaaDoorMPapp
import Derived.Laws.ResultCell
import Derived.Laws.Rows
import Derived.Laws.Tables
namespace Go.Proofs.YtffhejaeliphcaaDoor
open Go.RowKit
set_option linter.unusedVariables false

def clRow (f c s : Int) (m : Value) : Array Value := #[.int .i64 f, .int .i64 c, .int .i64 s, m]
theorem info_cl : (Tryd.prog.info? 84).map (·.size) = some 4 := by kernel_rfl
theorem ret_cl {fn : Func} {p u : Tmp} {cs : Array Value} {tmps : Array Value} {w : World} {g : Nat} {e : TypeId} (h : fn.results = #[.cell p 84, .tmp u]) (hp : tmps.getD p undef = .pointer (some ⟨g, 0, none⟩)) (hg : w.heap[g]? = some (.cells cs e (0, 0))) (hs : cs.size = 4) {v : Value} (hv : tmps.getD u undef = v) :
    (results fn tmps).run Tryd.prog w = .ok (.tuple #[.agg cs, v]) w := by
  subst hv
  rw [results_cell_tmp h, hp]
  have hl := run_loadVar_row (P := Tryd.prog) w g e 84 cs (0, 0) _ hg Tryd.underlying84 rfl (by rw [hs]; exact info_cl)
  simp [asAddr, hl]
/-- What unclose gives. -/
def GivesCl (w : World) (x : Option Cl) (e : Ending) (w' : World) : Prop :=
  match x with
  | none => ∃ (f c s : Int) (a : Option Addr) (n k : Nat), e = .returned (.tuple #[.agg (clRow f c s (.slice a n k)), .bool false]) ∧ Below w.heap.size w w'
  | some y => ∃ a k, e = .returned (.tuple #[.agg (clRow y.first y.count y.stride (.slice a y.marks.length k)), .bool true]) ∧ w'.ownsRow w.heap.size 67 2 (.slice a y.marks.length k) y.marks.length (y.marks.flatMap Mk.cells) ∧ Below w.heap.size w w'

theorem grownBy_setCell1 (W : World) (b j : Nat) (v : Value) : W.grownBy (W.setCell ⟨b, j, none⟩ v) (some b) :=
  ⟨rfl, rfl, rfl, by rw [World.size_setCell]; exact Nat.le_refl _, fun k _ hk => Below.heap_setCell _ _ _ k (fun e => hk (by rw [e]))⟩
/-- Four cells of a block are written, one by one. -/
theorem four_set {w : World} {g : Nat} {t : TypeId} {a0 a1 a2 a3 : Value} (hg : w.heap[g]? = some (.cells #[a0, a1, a2, a3] t (0, 0))) (v0 v1 v2 v3 : Value) :
    ((((w.setCell ⟨g, 0, none⟩ v0).setCell ⟨g, 1, none⟩ v1).setCell ⟨g, 2, none⟩ v2).setCell ⟨g, 3, none⟩ v3).drew.heap[g]? = some (.cells #[v0, v1, v2, v3] t (0, 0)) ∧
    w.grownBy ((((w.setCell ⟨g, 0, none⟩ v0).setCell ⟨g, 1, none⟩ v1).setCell ⟨g, 2, none⟩ v2).setCell ⟨g, 3, none⟩ v3).drew (some g) := by
  have h0 : (w.setCell ⟨g, 0, none⟩ v0).heap[g]? = some (.cells #[v0, a1, a2, a3] t (0, 0)) := blk_set hg
  have h1 : ((w.setCell ⟨g, 0, none⟩ v0).setCell ⟨g, 1, none⟩ v1).heap[g]? = some (.cells #[v0, v1, a2, a3] t (0, 0)) := blk_set h0
  have h2 : (((w.setCell ⟨g, 0, none⟩ v0).setCell ⟨g, 1, none⟩ v1).setCell ⟨g, 2, none⟩ v2).heap[g]? = some (.cells #[v0, v1, v2, a3] t (0, 0)) := blk_set h1
  have h3 : ((((w.setCell ⟨g, 0, none⟩ v0).setCell ⟨g, 1, none⟩ v1).setCell ⟨g, 2, none⟩ v2).setCell ⟨g, 3, none⟩ v3).heap[g]? = some (.cells #[v0, v1, v2, v3] t (0, 0)) := blk_set h2
  refine ⟨h3, ?_⟩
  have q := grownBy_trans (grownBy_trans (grownBy_trans (grownBy_setCell' w g v0) (grownBy_setCell1 _ g 1 v1)) (grownBy_setCell1 _ g 2 v2)) (grownBy_setCell1 _ g 3 v3)
  exact ⟨q.os, q.tape, q.output, q.size, q.block⟩
theorem unnums3 (a1 : Option Addr) (n1 c1 : Nat) (l : List UInt8) (w : World) (r1 : RowAt w a1 n1 c1 1 (l.map B)) :
    Calls Tryd.prog 51 #[.slice a1 n1 c1, .int .i64 3] w (GivesU w (unN l 3)) := unnums_any a1 n1 c1 l 3 w (by decide) r1
theorem cl_end {w wx : World} {cs : Array Value} (h : Below w.heap.size w wx) : Below w.heap.size w (wx.setRow w.heap.size cs) :=
  h.grown ⟨rfl, rfl, rfl, by simp, fun k hk hne => setRow_other wx w.heap.size k _ (fun e => hne (by rw [e]))⟩ h.size (fun k e => by cases e; exact Nat.le_refl _)

set_option maxRecDepth 8000 in
set_option maxHeartbeats 3200000 in
theorem uncl_any (a : Option Addr) (n c : Nat) (l : List UInt8) (w : World) (r : RowAt w a n c 1 (l.map B)) :
    Calls Tryd.prog 35 #[.slice a n c] w (GivesCl w (unclF l)) := by
  have hb0 := below_made w (.cells (clRow 0 0 0 (.slice none 0 0)) 84)
  have hg0 := World.alloc_heap_new w (.cells (clRow 0 0 0 (.slice none 0 0)) 84)
  have r0 := r.below hb0
  obtain ⟨x, hx⟩ : ∃ x, unN l 3 = x := ⟨_, rfl⟩
  have hu := unnums3 a n c l _ r0
  rw [hx] at hu
  have HU := Lib.hid hu
  clear hu
  unfold clRow at hb0 hg0 r0 HU
  go_enter Tryd.func35, Tryd.ntmps35
  go_wp2_with fail
  (with_reducible refine (HU.out).mono ?_)
  cases x with
  | none =>
    rintro e w1 ⟨rfl, hb1⟩
    have HR := Lib.hid (unclF_none hx)
    have hg1 := below_blk2 hb1 hg0
    have hb2 := below_next hb0 hb1
    clear hx hb0 hb1 hg0 r0 HU r
    go_wp2_with (with_reducible refine wpList_store_row rfl 84 (.tmp 2) (.tmp 35) rfl w.heap.size (clRow 0 0 0 (.slice none 0 0)) rfl rfl _ _ hg1 (by with_unfolding_all exact info_cl) (by with_unfolding_all exact rfl) (by with_unfolding_all exact rfl) ?_)
    have hg9 := setRow_heap w1 w.heap.size _ (clRow 0 0 0 (.slice none 0 0)) _ _ hg1
    refine bodyPost_ret (ret_cl (cs := clRow 0 0 0 (.slice none 0 0)) rfl rfl hg9 rfl rfl) rfl ?_
    rw [HR.out]
    exact ⟨0, 0, 0, none, 0, 0, rfl, cl_end hb2⟩
  | some y =>
    obtain ⟨vs, q⟩ := y
    obtain ⟨f, ct, st, rfl, hf, hc, hs⟩ := unN3_some hx
    rintro e w1 ⟨av, cv, ar, cr, rfl, rv, rr, hb1⟩
    have hg1 := below_blk2 hb1 hg0
    have hb2 := below_next hb0 hb1
    obtain ⟨bv, ov, x0, rfl, hx0, hc0⟩ := rv.elem 0 (by show 0 < 3; omega)
    obtain ⟨bv1, ov1, x1, e1, hx1, hc1⟩ := rv.elem 1 (by show 1 < 3; omega)
    obtain ⟨rfl, rfl⟩ : bv = bv1 ∧ ov = ov1 := by simpa using e1
    obtain ⟨bv2, ov2, x2, e2, hx2, hc2⟩ := rv.elem 2 (by show 2 < 3; omega)
    obtain ⟨rfl, rfl⟩ : bv = bv2 ∧ ov = ov2 := by simpa using e2
    obtain rfl : f = x0 := by simpa using hx0
    obtain rfl : ct = x1 := by simpa using hx1
    obtain rfl : st = x2 := by simpa using hx2
    have mv := rv.2.1
    have mv1 := rv.2.2.1
    unfold maxLen at mv1
    simp only [List.length_cons, List.length_nil, Nat.zero_add, Nat.reduceAdd] at mv ⊢
    have k0 : w1.cell? ⟨bv, ov, none⟩ = some (.int .i64 (f : Int)) := hc0
    have k1 : w1.cell? ⟨bv, ov + 1, none⟩ = some (.int .i64 (ct : Int)) := hc1
    have k2 : w1.cell? ⟨bv, ov + 2, none⟩ = some (.int .i64 (st : Int)) := hc2
    clear e1 e2 hx0 hx1 hx2 hc0 hc1 hc2 rv HU hb0 hb1 hg0 r0 r
    by_cases b1 : st < 1
    · have HR := Lib.hid (unclF_bad hx (.inl b1))
      have d1 : decide ((st : Int) < 1) = true := decide_eq_true (by omega)
      clear hx
      go_wp2_with (with_reducible refine wpList_store_row rfl 84 (.tmp 2) (.tmp 35) rfl w.heap.size (clRow 0 0 0 (.slice none 0 0)) rfl rfl _ _ hg1 (by with_unfolding_all exact info_cl) (by with_unfolding_all exact rfl) (by with_unfolding_all exact rfl) ?_)
      have hg9 := setRow_heap w1 w.heap.size _ (clRow 0 0 0 (.slice none 0 0)) _ _ hg1
      refine bodyPost_ret (ret_cl (cs := clRow 0 0 0 (.slice none 0 0)) rfl rfl hg9 rfl rfl) rfl ?_
      rw [HR.out]
      exact ⟨0, 0, 0, none, 0, 0, rfl, cl_end hb2⟩
    by_cases b2 : 64 < st
    · have HR := Lib.hid (unclF_bad hx (.inr (.inl b2)))
      have d1 : decide ((st : Int) < 1) = false := decide_eq_false (by omega)
      have d2 : decide (64 < (st : Int)) = true := decide_eq_true (by omega)
      clear hx
      go_wp2_with (with_reducible refine wpList_store_row rfl 84 (.tmp 2) (.tmp 35) rfl w.heap.size (clRow 0 0 0 (.slice none 0 0)) rfl rfl _ _ hg1 (by with_unfolding_all exact info_cl) (by with_unfolding_all exact rfl) (by with_unfolding_all exact rfl) ?_)
      have hg9 := setRow_heap w1 w.heap.size _ (clRow 0 0 0 (.slice none 0 0)) _ _ hg1
      refine bodyPost_ret (ret_cl (cs := clRow 0 0 0 (.slice none 0 0)) rfl rfl hg9 rfl rfl) rfl ?_
      rw [HR.out]
      exact ⟨0, 0, 0, none, 0, 0, rfl, cl_end hb2⟩
    by_cases b3 : ct < 1
    · have HR := Lib.hid (unclF_bad hx (.inr (.inr b3)))
      have d1 : decide ((st : Int) < 1) = false := decide_eq_false (by omega)
      have d2 : decide (64 < (st : Int)) = false := decide_eq_false (by omega)
      have d3 : decide ((ct : Int) < 1) = true := decide_eq_true (by omega)
      clear hx
      go_wp2_with (with_reducible refine wpList_store_row rfl 84 (.tmp 2) (.tmp 35) rfl w.heap.size (clRow 0 0 0 (.slice none 0 0)) rfl rfl _ _ hg1 (by with_unfolding_all exact info_cl) (by with_unfolding_all exact rfl) (by with_unfolding_all exact rfl) ?_)
      have hg9 := setRow_heap w1 w.heap.size _ (clRow 0 0 0 (.slice none 0 0)) _ _ hg1
      refine bodyPost_ret (ret_cl (cs := clRow 0 0 0 (.slice none 0 0)) rfl rfl hg9 rfl rfl) rfl ?_
      rw [HR.out]
      exact ⟨0, 0, 0, none, 0, 0, rfl, cl_end hb2⟩
    have d1 : decide ((st : Int) < 1) = false := decide_eq_false (by omega)
    have d2 : decide (64 < (st : Int)) = false := decide_eq_false (by omega)
    have d3 : decide ((ct : Int) < 1) = false := decide_eq_false (by omega)
    have hnb : ¬ (st < 1 ∨ 64 < st ∨ ct < 1) := by omega
    obtain ⟨x, hxd⟩ : ∃ x, decIx q = x := ⟨_, rfl⟩
    obtain ⟨ms, er⟩ := x
    have hd := idec_any ar q.length cr q w1 rr
    rw [hxd] at hd
    have HD := Lib.hid hd
    have HX := Lib.hid hx
    have HXD := Lib.hid hxd
    clear hx hxd hd rr
    go_wp2_with fail
    (with_reducible refine (HD.out).mono ?_)
    rintro e w2 ⟨am, cm, rfl, hom, hb3⟩
    simp only at hom ⊢
    have hg2 := below_blk2 hb3 hg1
    have hb4 := below_next hb2 hb3
    have j0 := (World.cell?_of_block (hb3.block _ (World.block_lt_of_cell? w1 _ k0))).trans k0
    have j1 := (World.cell?_of_block (hb3.block _ (World.block_lt_of_cell? w1 _ k1))).trans k1
    have j2 := (World.cell?_of_block (hb3.block _ (World.block_lt_of_cell? w1 _ k2))).trans k2
    obtain ⟨bq, hbq⟩ : ∃ bq, ((er : Int) == 0) = bq := ⟨_, rfl⟩
    have HBQ := Lib.hid hbq
    have hlt := lt_of_block hg1
    clear k0 k1 k2 hb2 hg1 HD
    go_wp2_with fail
    have hne : bv ≠ w.heap.size := by
      rintro rfl
      have h9 : w2.cell? ⟨w.heap.size, ov + 2, none⟩ = (#[.int .i64 0, .int .i64 0, .int .i64 0, .slice none 0 0] : Array Value)[ov + 2]? := by
        unfold World.cell?
        simp [hg2]
      rw [j2] at h9
      match ov, h9 with
      | 0, h9 => simp at h9; omega
      | 1, h9 => simp at h9
      | k + 2, h9 => simp at h9
    have z0 : w2.frozen? ⟨w.heap.size, 0, none⟩ = false := by unfold World.frozen?; simp [hg2]
    have z1 : w2.frozen? ⟨w.heap.size, 1, none⟩ = false := by unfold World.frozen?; simp [hg2]
    have z2 : w2.frozen? ⟨w.heap.size, 2, none⟩ = false := by unfold World.frozen?; simp [hg2]
    have z3 : w2.frozen? ⟨w.heap.size, 3, none⟩ = false := by unfold World.frozen?; simp [hg2]
    have y0 : w2.cell? ⟨w.heap.size, 0, none⟩ = some (.int .i64 0) := cell_blk hg2 rfl
    have y1 : w2.cell? ⟨w.heap.size, 1, none⟩ = some (.int .i64 0) := cell_blk hg2 rfl
    have y2 : w2.cell? ⟨w.heap.size, 2, none⟩ = some (.int .i64 0) := cell_blk hg2 rfl
    have y3 : w2.cell? ⟨w.heap.size, 3, none⟩ = some (.slice none 0 0) := cell_blk hg2 rfl
    go_region
    obtain ⟨wx, hwx⟩ : ∃ wx, ((((w2.setCell ⟨w.heap.size, 0, none⟩ (.int .i64 (f : Int))).setCell ⟨w.heap.size, 1, none⟩ (.int .i64 (ct : Int))).setCell ⟨w.heap.size, 2, none⟩ (.int .i64 (st : Int))).setCell ⟨w.heap.size, 3, none⟩ (.slice am ms.length cm)).drew = wx := ⟨_, rfl⟩
    obtain ⟨hgx, hgrx⟩ := four_set hg2 (.int .i64 (f : Int)) (.int .i64 (ct : Int)) (.int .i64 (st : Int)) (.slice am ms.length cm)
    rw [hwx] at hgx hgrx ⊢
    have hbx := hb4.grown hgrx hb4.size (fun k e => by cases e; exact Nat.le_refl _)
    have homx := own_on (W' := wx) hom fun g cs hg hb hw => (hgrx.block g (lt_of_block hw) (fun e => by have := Option.some.inj e; omega)).trans hw
    have HW := Lib.hid homx
    clear hwx hgrx z0 z1 z2 z3 y0 y1 y2 y3 hg2 hom hb3 j0 j1 j2 hne homx
    go_wp2_with fail
    refine bodyPost_ret (ret_cl (cs := clRow f ct st (.slice am ms.length cm)) rfl rfl hgx rfl rfl) rfl ?_
    by_cases he : er = 0
    · subst he
      obtain rfl : true = bq := HBQ.out
      rw [unclF_ok HX.out hnb (by rw [HXD.out]), HXD.out]
      exact ⟨am, cm, rfl, own_mono HW.out (by omega), hbx⟩
    · obtain rfl : false = bq := by rw [← HBQ.out]; symm; rw [beq_eq_false_iff_ne]; omega
      rw [unclF_err HX.out hnb (by rw [HXD.out]; exact he)]
      exact ⟨f, ct, st, am, ms.length, cm, rfl, hbx⟩
end Go.Proofs.YtffhejaeliphcaaDoor
