/-
  The walks of both Whole. Conditions: the argument reads as bytes; the program's table of nibbles holds what its text lays.
-/
import Derived.Test.YtffhejaeliphcaaDoorMFd
import Derived.Test.YtffhejaeliphcaaDoorMWf
import Derived.Deep.Cut
namespace Go.Proofs.YtffhejaeliphcaaDoor
open Go.RowKit
set_option linter.unusedVariables false

/-- What is read as one frame of that kind. -/
def wholeF (l : List UInt8) (kind : Int) : Fr × Nat :=
  if (decF l).2.2 ≠ 0 then (Fr.none, (decF l).2.2)
  else if ((decF l).1.kind : Int) ≠ kind ∨ (decF l).2.1 ≠ l.length then (Fr.none, 63)
  else ((decF l).1, 0)

/-- The word of a contract that gives a frame whose body is in new memory and an error's number. -/
def GivesW (eB : TypeId) (w : World) (x : Fr × Nat) (e : Ending) (w' : World) : Prop :=
  ∃ a cap, e = .returned (.tuple #[.agg #[.int .i64 (x.1.kind : Int), .int .i64 (x.1.seq : Int), .slice a x.1.body.length cap], .int .i64 (x.2 : Int)]) ∧
    w'.ownsRow w.heap.size eB 1 (.slice a x.1.body.length cap) x.1.body.length (x.1.body.map B) ∧ Below w.heap.size w w'

set_option maxHeartbeats 1600000 in
theorem whole_any (a : Option Addr) (n c : Nat) (l : List UInt8) (kind : Int) (w : World) (r : RowAt w a n c 1 (l.map B)) (ht : Tab w) :
    Calls Tryd.prog 45 #[.slice a n c, .int .i64 kind] w (GivesW 5 w (wholeF l kind)) := by
  have e1 : l.length = n := by simpa using r.len
  have HL := Lib.hid e1
  clear e1
  have hb0 := below_made w (.cells #[.int .i64 0, .int .i64 0, .slice none 0 0] 53)
  have h0 := heap_alloc_new w (.cells #[.int .i64 0, .int .i64 0, .slice none 0 0] 53)
  have hz0 : w.heap.size < (w.alloc (.cells #[.int .i64 0, .int .i64 0, .slice none 0 0] 53)).heap.size := by simp
  have r0 := r.below hb0
  have t0 := ht.below hb0
  go_enter Tryd.func45, Tryd.ntmps45
  go_wp2_with fail
  (with_reducible refine (fdec_any _ _ _ l _ r0 t0).mono ?_)
  rintro e w1 ⟨a1, c1, rfl, ho1, hb1⟩
  obtain ⟨x, hx⟩ : ∃ x, decF l = x := ⟨_, rfl⟩
  obtain ⟨f, q, er⟩ := x
  have HX := Lib.hid hx
  rw [hx] at ho1 ⊢
  simp only at ho1 ⊢
  go_upto_region 2 with (fail)
  have hbm := below_made w1 (.cells #[.int .i64 (f.kind : Int), .int .i64 (f.seq : Int), .slice a1 f.body.length c1] 53)
  have hf := heap_alloc_new w1 (.cells #[.int .i64 (f.kind : Int), .int .i64 (f.seq : Int), .slice a1 f.body.length c1] 53)
  have h1 := (hb1.block _ hz0).trans h0
  have hz1 : w.heap.size < w1.heap.size := by have := hb1.size; omega
  have h2 := (hbm.block _ hz1).trans h1
  have hb2 := below_next (below_next hb0 hb1) hbm
  have ho2 := own_below ho1 hbm
  obtain ⟨wm, hwm⟩ : ∃ wm, w1.alloc (.cells #[.int .i64 (f.kind : Int), .int .i64 (f.seq : Int), .slice a1 f.body.length c1] 53) = wm := ⟨_, rfl⟩
  rw [hwm] at hf h2 hb2 ho2 ⊢
  obtain ⟨x0, x1, x2, _, _, _⟩ := laid3 hf
  clear hx hf h1 hbm hb0 hwm
  by_cases he : er = 0
  · subst he
    by_cases hk : (f.kind : Int) = kind
    · by_cases hq : q = n
      · have HE : Hid (wholeF l kind = (f, 0)) := Lib.hid (by unfold wholeF; rw [HX.out]; simp only; rw [if_neg (by simp), if_neg (by rw [HL.out]; omega)])
        subst hk hq
        have s0 := set3_0 (u := .int .i64 (f.kind : Int)) h2
        have s1 := set3_1 (u := .int .i64 (f.seq : Int)) s0
        have s2 := set3_2 (u := .slice a1 f.body.length c1) s1
        obtain ⟨d0, d1, d2, _, _, _⟩ := laid3 s2
        obtain ⟨v0, v1, v2, f0, f1, f2⟩ := laid3 h2
        have g1 : (wm.setCell ⟨w.heap.size, 0, none⟩ (.int .i64 (f.kind : Int))).frozen? ⟨w.heap.size, 1, none⟩ = false := free_blk s0
        have g2 : ((wm.setCell ⟨w.heap.size, 0, none⟩ (.int .i64 (f.kind : Int))).setCell ⟨w.heap.size, 1, none⟩ (.int .i64 (f.seq : Int))).frozen? ⟨w.heap.size, 2, none⟩ = false := free_blk s1
        have hbs := below_set3 (x := .int .i64 (f.kind : Int)) (y := .int .i64 (f.seq : Int)) (z := .slice a1 f.body.length c1) hb2 (Nat.le_refl _)
        have hos := own_set3 (x := .int .i64 (f.kind : Int)) (y := .int .i64 (f.seq : Int)) (z := .slice a1 f.body.length c1) (b := w.heap.size) ho2 (fun e => by have := (ho2.lt _ e).1; omega)
        clear s0 s1 s2 h2 h0
        go_wp2_with fail
        refine bodyPost_ret (v := .tuple #[.agg #[.int .i64 (f.kind : Int), .int .i64 (f.seq : Int), .slice a1 f.body.length c1], .int .i64 0]) (by simp [results, Tryd.results45, go_sem, d0, d1, d2]) rfl ?_
        rw [HE.out]
        exact ⟨a1, c1, rfl, own_mono hos (by have := hb1.size; omega), hbs⟩
      · have HE : Hid (wholeF l kind = (Fr.none, 63)) := Lib.hid (by unfold wholeF; rw [HX.out]; simp only; rw [if_neg (by simp), if_pos (by rw [HL.out]; omega)])
        have hqb : ((q : Int) != (n : Int)) = true := by rw [bne_iff_ne]; omega
        subst hk
        have s0 := set3_0 (u := .int .i64 0) h2
        have s1 := set3_1 (u := .int .i64 0) s0
        have s2 := set3_2 (u := .slice none 0 0) s1
        obtain ⟨d0, d1, d2, _, _, _⟩ := laid3 s2
        obtain ⟨v0, v1, v2, f0, f1, f2⟩ := laid3 h2
        have g1 : (wm.setCell ⟨w.heap.size, 0, none⟩ (.int .i64 0)).frozen? ⟨w.heap.size, 1, none⟩ = false := free_blk s0
        have g2 : ((wm.setCell ⟨w.heap.size, 0, none⟩ (.int .i64 0)).setCell ⟨w.heap.size, 1, none⟩ (.int .i64 0)).frozen? ⟨w.heap.size, 2, none⟩ = false := free_blk s1
        have hbs := below_set3 (x := .int .i64 0) (y := .int .i64 0) (z := .slice none 0 0) hb2 (Nat.le_refl _)
        clear s0 s1 s2 h2 h0
        go_wp2_with fail
        refine bodyPost_ret (v := .tuple #[.agg #[.int .i64 0, .int .i64 0, .slice none 0 0], .int .i64 63]) (by simp [results, Tryd.results45, go_sem, d0, d1, d2]) rfl ?_
        rw [HE.out]
        exact ⟨none, 0, rfl, World.ownsRow_nil _ _ _ _, hbs⟩
    · have HE : Hid (wholeF l kind = (Fr.none, 63)) := Lib.hid (by unfold wholeF; rw [HX.out]; simp only; rw [if_neg (by simp), if_pos (by omega)])
      have hkb : ((f.kind : Int) != kind) = true := by rw [bne_iff_ne]; exact hk
      clear hk
      have s0 := set3_0 (u := .int .i64 0) h2
      have s1 := set3_1 (u := .int .i64 0) s0
      have s2 := set3_2 (u := .slice none 0 0) s1
      obtain ⟨d0, d1, d2, _, _, _⟩ := laid3 s2
      obtain ⟨v0, v1, v2, f0, f1, f2⟩ := laid3 h2
      have g1 : (wm.setCell ⟨w.heap.size, 0, none⟩ (.int .i64 0)).frozen? ⟨w.heap.size, 1, none⟩ = false := free_blk s0
      have g2 : ((wm.setCell ⟨w.heap.size, 0, none⟩ (.int .i64 0)).setCell ⟨w.heap.size, 1, none⟩ (.int .i64 0)).frozen? ⟨w.heap.size, 2, none⟩ = false := free_blk s1
      have hbs := below_set3 (x := .int .i64 0) (y := .int .i64 0) (z := .slice none 0 0) hb2 (Nat.le_refl _)
      clear s0 s1 s2 h2 h0
      go_wp2_with fail
      refine bodyPost_ret (v := .tuple #[.agg #[.int .i64 0, .int .i64 0, .slice none 0 0], .int .i64 63]) (by simp [results, Tryd.results45, go_sem, d0, d1, d2]) rfl ?_
      rw [HE.out]
      exact ⟨none, 0, rfl, World.ownsRow_nil _ _ _ _, hbs⟩
  · have HE : Hid (wholeF l kind = (Fr.none, er)) := Lib.hid (by unfold wholeF; rw [HX.out]; simp only; rw [if_pos he])
    have heb : ((er : Int) != 0) = true := by rw [bne_iff_ne]; omega
    clear he
    have s0 := set3_0 (u := .int .i64 0) h2
    have s1 := set3_1 (u := .int .i64 0) s0
    have s2 := set3_2 (u := .slice none 0 0) s1
    obtain ⟨d0, d1, d2, _, _, _⟩ := laid3 s2
    obtain ⟨v0, v1, v2, f0, f1, f2⟩ := laid3 h2
    have g1 : (wm.setCell ⟨w.heap.size, 0, none⟩ (.int .i64 0)).frozen? ⟨w.heap.size, 1, none⟩ = false := free_blk s0
    have g2 : ((wm.setCell ⟨w.heap.size, 0, none⟩ (.int .i64 0)).setCell ⟨w.heap.size, 1, none⟩ (.int .i64 0)).frozen? ⟨w.heap.size, 2, none⟩ = false := free_blk s1
    have hbs := below_set3 (x := .int .i64 0) (y := .int .i64 0) (z := .slice none 0 0) hb2 (Nat.le_refl _)
    clear s0 s1 s2 h2 h0
    go_wp2_with fail
    refine bodyPost_ret (v := .tuple #[.agg #[.int .i64 0, .int .i64 0, .slice none 0 0], .int .i64 (er : Int)]) (by simp [results, Tryd.results45, go_sem, d0, d1, d2]) rfl ?_
    rw [HE.out]
    exact ⟨none, 0, rfl, World.ownsRow_nil _ _ _ _, hbs⟩

set_option maxHeartbeats 1600000 in
theorem rwhole_any (a : Option Addr) (n c : Nat) (l : List UInt8) (kind : Int) (w : World) (r : RowAt w a n c 1 (l.map B)) :
    Calls Tryd.prog 46 #[.slice a n c, .int .i64 kind] w (GivesW 5 w (wholeF l kind)) := by
  have e1 : l.length = n := by simpa using r.len
  have HL := Lib.hid e1
  clear e1
  have hb0 := below_made w (.cells #[.int .i64 0, .int .i64 0, .slice none 0 0] 53)
  have h0 := heap_alloc_new w (.cells #[.int .i64 0, .int .i64 0, .slice none 0 0] 53)
  have hz0 : w.heap.size < (w.alloc (.cells #[.int .i64 0, .int .i64 0, .slice none 0 0] 53)).heap.size := by simp
  have r0 := r.below hb0
  go_enter Tryd.func46, Tryd.ntmps46
  go_wp2_with fail
  (with_reducible refine (frdec_any _ _ _ l _ r0).mono ?_)
  rintro e w1 ⟨a1, c1, rfl, ho1, hb1⟩
  obtain ⟨x, hx⟩ : ∃ x, decF l = x := ⟨_, rfl⟩
  obtain ⟨f, q, er⟩ := x
  have HX := Lib.hid hx
  rw [hx] at ho1 ⊢
  simp only at ho1 ⊢
  go_upto_region 2 with (fail)
  have hbm := below_made w1 (.cells #[.int .i64 (f.kind : Int), .int .i64 (f.seq : Int), .slice a1 f.body.length c1] 53)
  have hf := heap_alloc_new w1 (.cells #[.int .i64 (f.kind : Int), .int .i64 (f.seq : Int), .slice a1 f.body.length c1] 53)
  have h1 := (hb1.block _ hz0).trans h0
  have hz1 : w.heap.size < w1.heap.size := by have := hb1.size; omega
  have h2 := (hbm.block _ hz1).trans h1
  have hb2 := below_next (below_next hb0 hb1) hbm
  have ho2 := own_below ho1 hbm
  obtain ⟨wm, hwm⟩ : ∃ wm, w1.alloc (.cells #[.int .i64 (f.kind : Int), .int .i64 (f.seq : Int), .slice a1 f.body.length c1] 53) = wm := ⟨_, rfl⟩
  rw [hwm] at hf h2 hb2 ho2 ⊢
  obtain ⟨x0, x1, x2, _, _, _⟩ := laid3 hf
  clear hx hf h1 hbm hb0 hwm
  by_cases he : er = 0
  · subst he
    by_cases hk : (f.kind : Int) = kind
    · by_cases hq : q = n
      · have HE : Hid (wholeF l kind = (f, 0)) := Lib.hid (by unfold wholeF; rw [HX.out]; simp only; rw [if_neg (by simp), if_neg (by rw [HL.out]; omega)])
        subst hk hq
        have s0 := set3_0 (u := .int .i64 (f.kind : Int)) h2
        have s1 := set3_1 (u := .int .i64 (f.seq : Int)) s0
        have s2 := set3_2 (u := .slice a1 f.body.length c1) s1
        obtain ⟨d0, d1, d2, _, _, _⟩ := laid3 s2
        obtain ⟨v0, v1, v2, f0, f1, f2⟩ := laid3 h2
        have g1 : (wm.setCell ⟨w.heap.size, 0, none⟩ (.int .i64 (f.kind : Int))).frozen? ⟨w.heap.size, 1, none⟩ = false := free_blk s0
        have g2 : ((wm.setCell ⟨w.heap.size, 0, none⟩ (.int .i64 (f.kind : Int))).setCell ⟨w.heap.size, 1, none⟩ (.int .i64 (f.seq : Int))).frozen? ⟨w.heap.size, 2, none⟩ = false := free_blk s1
        have hbs := below_set3 (x := .int .i64 (f.kind : Int)) (y := .int .i64 (f.seq : Int)) (z := .slice a1 f.body.length c1) hb2 (Nat.le_refl _)
        have hos := own_set3 (x := .int .i64 (f.kind : Int)) (y := .int .i64 (f.seq : Int)) (z := .slice a1 f.body.length c1) (b := w.heap.size) ho2 (fun e => by have := (ho2.lt _ e).1; omega)
        clear s0 s1 s2 h2 h0
        go_wp2_with fail
        refine bodyPost_ret (v := .tuple #[.agg #[.int .i64 (f.kind : Int), .int .i64 (f.seq : Int), .slice a1 f.body.length c1], .int .i64 0]) (by simp [results, Tryd.results46, go_sem, d0, d1, d2]) rfl ?_
        rw [HE.out]
        exact ⟨a1, c1, rfl, own_mono hos (by have := hb1.size; omega), hbs⟩
      · have HE : Hid (wholeF l kind = (Fr.none, 63)) := Lib.hid (by unfold wholeF; rw [HX.out]; simp only; rw [if_neg (by simp), if_pos (by rw [HL.out]; omega)])
        have hqb : ((q : Int) != (n : Int)) = true := by rw [bne_iff_ne]; omega
        subst hk
        have s0 := set3_0 (u := .int .i64 0) h2
        have s1 := set3_1 (u := .int .i64 0) s0
        have s2 := set3_2 (u := .slice none 0 0) s1
        obtain ⟨d0, d1, d2, _, _, _⟩ := laid3 s2
        obtain ⟨v0, v1, v2, f0, f1, f2⟩ := laid3 h2
        have g1 : (wm.setCell ⟨w.heap.size, 0, none⟩ (.int .i64 0)).frozen? ⟨w.heap.size, 1, none⟩ = false := free_blk s0
        have g2 : ((wm.setCell ⟨w.heap.size, 0, none⟩ (.int .i64 0)).setCell ⟨w.heap.size, 1, none⟩ (.int .i64 0)).frozen? ⟨w.heap.size, 2, none⟩ = false := free_blk s1
        have hbs := below_set3 (x := .int .i64 0) (y := .int .i64 0) (z := .slice none 0 0) hb2 (Nat.le_refl _)
        clear s0 s1 s2 h2 h0
        go_wp2_with fail
        refine bodyPost_ret (v := .tuple #[.agg #[.int .i64 0, .int .i64 0, .slice none 0 0], .int .i64 63]) (by simp [results, Tryd.results46, go_sem, d0, d1, d2]) rfl ?_
        rw [HE.out]
        exact ⟨none, 0, rfl, World.ownsRow_nil _ _ _ _, hbs⟩
    · have HE : Hid (wholeF l kind = (Fr.none, 63)) := Lib.hid (by unfold wholeF; rw [HX.out]; simp only; rw [if_neg (by simp), if_pos (by omega)])
      have hkb : ((f.kind : Int) != kind) = true := by rw [bne_iff_ne]; exact hk
      clear hk
      have s0 := set3_0 (u := .int .i64 0) h2
      have s1 := set3_1 (u := .int .i64 0) s0
      have s2 := set3_2 (u := .slice none 0 0) s1
      obtain ⟨d0, d1, d2, _, _, _⟩ := laid3 s2
      obtain ⟨v0, v1, v2, f0, f1, f2⟩ := laid3 h2
      have g1 : (wm.setCell ⟨w.heap.size, 0, none⟩ (.int .i64 0)).frozen? ⟨w.heap.size, 1, none⟩ = false := free_blk s0
      have g2 : ((wm.setCell ⟨w.heap.size, 0, none⟩ (.int .i64 0)).setCell ⟨w.heap.size, 1, none⟩ (.int .i64 0)).frozen? ⟨w.heap.size, 2, none⟩ = false := free_blk s1
      have hbs := below_set3 (x := .int .i64 0) (y := .int .i64 0) (z := .slice none 0 0) hb2 (Nat.le_refl _)
      clear s0 s1 s2 h2 h0
      go_wp2_with fail
      refine bodyPost_ret (v := .tuple #[.agg #[.int .i64 0, .int .i64 0, .slice none 0 0], .int .i64 63]) (by simp [results, Tryd.results46, go_sem, d0, d1, d2]) rfl ?_
      rw [HE.out]
      exact ⟨none, 0, rfl, World.ownsRow_nil _ _ _ _, hbs⟩
  · have HE : Hid (wholeF l kind = (Fr.none, er)) := Lib.hid (by unfold wholeF; rw [HX.out]; simp only; rw [if_pos he])
    have heb : ((er : Int) != 0) = true := by rw [bne_iff_ne]; omega
    clear he
    have s0 := set3_0 (u := .int .i64 0) h2
    have s1 := set3_1 (u := .int .i64 0) s0
    have s2 := set3_2 (u := .slice none 0 0) s1
    obtain ⟨d0, d1, d2, _, _, _⟩ := laid3 s2
    obtain ⟨v0, v1, v2, f0, f1, f2⟩ := laid3 h2
    have g1 : (wm.setCell ⟨w.heap.size, 0, none⟩ (.int .i64 0)).frozen? ⟨w.heap.size, 1, none⟩ = false := free_blk s0
    have g2 : ((wm.setCell ⟨w.heap.size, 0, none⟩ (.int .i64 0)).setCell ⟨w.heap.size, 1, none⟩ (.int .i64 0)).frozen? ⟨w.heap.size, 2, none⟩ = false := free_blk s1
    have hbs := below_set3 (x := .int .i64 0) (y := .int .i64 0) (z := .slice none 0 0) hb2 (Nat.le_refl _)
    clear s0 s1 s2 h2 h0
    go_wp2_with fail
    refine bodyPost_ret (v := .tuple #[.agg #[.int .i64 0, .int .i64 0, .slice none 0 0], .int .i64 (er : Int)]) (by simp [results, Tryd.results46, go_sem, d0, d1, d2]) rfl ?_
    rw [HE.out]
    exact ⟨none, 0, rfl, World.ownsRow_nil _ _ _ _, hbs⟩
end Go.Proofs.YtffhejaeliphcaaDoor
