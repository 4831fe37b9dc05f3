/-
  The walks of both Whole and of FrameWholes. Conditions: the argument reads as bytes; the program's table of nibbles holds what its text lays.
-/
import Derived.Test.YtlhhbackaifohaaDoorFhead
import Derived.Test.YtlhhbackaifohaaDoorFrdec
import Derived.Deep.Cut
namespace Go.Proofs.YtlhhbackaifohaaDoor
open Go.RowKit
set_option linter.unusedVariables false

/-- What is read as one frame of that kind. -/
def wholeF (l : List UInt8) (kind : Int) : Fr × Nat :=
  if (decF l).2.2 ≠ 0 then (Fr.none, (decF l).2.2)
  else if ((decF l).1.kind : Int) ≠ kind ∨ (decF l).2.1 ≠ l.length then (Fr.none, 63)
  else ((decF l).1, 0)

/-- The word of a contract that gives a frame whose body is in new memory and an error's number. -/
def GivesW (eB : TypeId) (w : World) (x : Fr × Nat) (e : Ending) (w' : World) : Prop :=
  ∃ a cap, e = .returned (.tuple #[.agg #[.int .i64 (x.1.kind : Int), .int .i64 (x.1.seq : Int), .slice a x.1.body.length cap], .int .i64 (x.2 : Int)]) ∧
    w'.ownsRow w.heap.size eB 1 (.slice a x.1.body.length cap) x.1.body.length (x.1.body.map B) ∧ Below w.heap.size w w'

set_option maxHeartbeats 1600000 in
theorem whole_any (a : Option Addr) (n c : Nat) (l : List UInt8) (kind : Int) (w : World) (r : RowAt w a n c 1 (l.map B)) (ht : Tab w) :
    Calls Tryd.prog 21 #[.slice a n c, .int .i64 kind] w (GivesW 5 w (wholeF l kind)) := by
  have e1 : l.length = n := by simpa using r.len
  have HL := Lib.hid e1
  clear e1
  have hb0 := below_made w (.cells #[.int .i64 0, .int .i64 0, .slice none 0 0] 29)
  have h0 := heap_alloc_new w (.cells #[.int .i64 0, .int .i64 0, .slice none 0 0] 29)
  have hz0 : w.heap.size < (w.alloc (.cells #[.int .i64 0, .int .i64 0, .slice none 0 0] 29)).heap.size := by simp
  have r0 := r.below hb0
  have t0 := ht.below hb0
  go_enter Tryd.func21, Tryd.ntmps21
  go_wp2_with fail
  (with_reducible refine (fdec_any _ _ _ l _ r0 t0).mono ?_)
  rintro e w1 ⟨a1, c1, rfl, ho1, hb1⟩
  obtain ⟨x, hx⟩ : ∃ x, decF l = x := ⟨_, rfl⟩
  obtain ⟨f, q, er⟩ := x
  have HX := Lib.hid hx
  rw [hx] at ho1 ⊢
  simp only at ho1 ⊢
  go_upto_region 2 with (fail)
  have hbm := below_made w1 (.cells #[.int .i64 (f.kind : Int), .int .i64 (f.seq : Int), .slice a1 f.body.length c1] 29)
  have hf := heap_alloc_new w1 (.cells #[.int .i64 (f.kind : Int), .int .i64 (f.seq : Int), .slice a1 f.body.length c1] 29)
  have h1 := (hb1.block _ hz0).trans h0
  have hz1 : w.heap.size < w1.heap.size := by have := hb1.size; omega
  have h2 := (hbm.block _ hz1).trans h1
  have hb2 := below_next (below_next hb0 hb1) hbm
  have ho2 := own_below ho1 hbm
  obtain ⟨wm, hwm⟩ : ∃ wm, w1.alloc (.cells #[.int .i64 (f.kind : Int), .int .i64 (f.seq : Int), .slice a1 f.body.length c1] 29) = wm := ⟨_, rfl⟩
  rw [hwm] at hf h2 hb2 ho2 ⊢
  obtain ⟨x0, x1, x2, _, _, _⟩ := laid3 hf
  clear hx hf h1 hbm hb0 hwm
  by_cases he : er = 0
  · subst he
    by_cases hk : (f.kind : Int) = kind
    · by_cases hq : q = n
      · have HE : Hid (wholeF l kind = (f, 0)) := Lib.hid (by unfold wholeF; rw [HX.out]; simp only; rw [if_neg (by simp), if_neg (by rw [HL.out]; omega)])
        subst hk hq
        have s0 := set3_0 (u := .int .i64 (f.kind : Int)) h2
        have s1 := set3_1 (u := .int .i64 (f.seq : Int)) s0
        have s2 := set3_2 (u := .slice a1 f.body.length c1) s1
        obtain ⟨d0, d1, d2, _, _, _⟩ := laid3 s2
        obtain ⟨v0, v1, v2, f0, f1, f2⟩ := laid3 h2
        have g1 : (wm.setCell ⟨w.heap.size, 0, none⟩ (.int .i64 (f.kind : Int))).frozen? ⟨w.heap.size, 1, none⟩ = false := free_blk s0
        have g2 : ((wm.setCell ⟨w.heap.size, 0, none⟩ (.int .i64 (f.kind : Int))).setCell ⟨w.heap.size, 1, none⟩ (.int .i64 (f.seq : Int))).frozen? ⟨w.heap.size, 2, none⟩ = false := free_blk s1
        have hbs := below_set3 (x := .int .i64 (f.kind : Int)) (y := .int .i64 (f.seq : Int)) (z := .slice a1 f.body.length c1) hb2 (Nat.le_refl _)
        have hos := own_set3 (x := .int .i64 (f.kind : Int)) (y := .int .i64 (f.seq : Int)) (z := .slice a1 f.body.length c1) (b := w.heap.size) ho2 (fun e => by have := (ho2.lt _ e).1; omega)
        clear s0 s1 s2 h2 h0
        go_wp2_with fail
        refine bodyPost_ret (v := .tuple #[.agg #[.int .i64 (f.kind : Int), .int .i64 (f.seq : Int), .slice a1 f.body.length c1], .int .i64 0]) (by simp [results, Tryd.results21, go_sem, d0, d1, d2]) rfl ?_
        rw [HE.out]
        exact ⟨a1, c1, rfl, own_mono hos (by have := hb1.size; omega), hbs⟩
      · have HE : Hid (wholeF l kind = (Fr.none, 63)) := Lib.hid (by unfold wholeF; rw [HX.out]; simp only; rw [if_neg (by simp), if_pos (by rw [HL.out]; omega)])
        have hqb : ((q : Int) != (n : Int)) = true := by rw [bne_iff_ne]; omega
        subst hk
        have s0 := set3_0 (u := .int .i64 0) h2
        have s1 := set3_1 (u := .int .i64 0) s0
        have s2 := set3_2 (u := .slice none 0 0) s1
        obtain ⟨d0, d1, d2, _, _, _⟩ := laid3 s2
        obtain ⟨v0, v1, v2, f0, f1, f2⟩ := laid3 h2
        have g1 : (wm.setCell ⟨w.heap.size, 0, none⟩ (.int .i64 0)).frozen? ⟨w.heap.size, 1, none⟩ = false := free_blk s0
        have g2 : ((wm.setCell ⟨w.heap.size, 0, none⟩ (.int .i64 0)).setCell ⟨w.heap.size, 1, none⟩ (.int .i64 0)).frozen? ⟨w.heap.size, 2, none⟩ = false := free_blk s1
        have hbs := below_set3 (x := .int .i64 0) (y := .int .i64 0) (z := .slice none 0 0) hb2 (Nat.le_refl _)
        clear s0 s1 s2 h2 h0
        go_wp2_with fail
        refine bodyPost_ret (v := .tuple #[.agg #[.int .i64 0, .int .i64 0, .slice none 0 0], .int .i64 63]) (by simp [results, Tryd.results21, go_sem, d0, d1, d2]) rfl ?_
        rw [HE.out]
        exact ⟨none, 0, rfl, World.ownsRow_nil _ _ _ _, hbs⟩
    · have HE : Hid (wholeF l kind = (Fr.none, 63)) := Lib.hid (by unfold wholeF; rw [HX.out]; simp only; rw [if_neg (by simp), if_pos (by omega)])
      have hkb : ((f.kind : Int) != kind) = true := by rw [bne_iff_ne]; exact hk
      clear hk
      have s0 := set3_0 (u := .int .i64 0) h2
      have s1 := set3_1 (u := .int .i64 0) s0
      have s2 := set3_2 (u := .slice none 0 0) s1
      obtain ⟨d0, d1, d2, _, _, _⟩ := laid3 s2
      obtain ⟨v0, v1, v2, f0, f1, f2⟩ := laid3 h2
      have g1 : (wm.setCell ⟨w.heap.size, 0, none⟩ (.int .i64 0)).frozen? ⟨w.heap.size, 1, none⟩ = false := free_blk s0
      have g2 : ((wm.setCell ⟨w.heap.size, 0, none⟩ (.int .i64 0)).setCell ⟨w.heap.size, 1, none⟩ (.int .i64 0)).frozen? ⟨w.heap.size, 2, none⟩ = false := free_blk s1
      have hbs := below_set3 (x := .int .i64 0) (y := .int .i64 0) (z := .slice none 0 0) hb2 (Nat.le_refl _)
      clear s0 s1 s2 h2 h0
      go_wp2_with fail
      refine bodyPost_ret (v := .tuple #[.agg #[.int .i64 0, .int .i64 0, .slice none 0 0], .int .i64 63]) (by simp [results, Tryd.results21, go_sem, d0, d1, d2]) rfl ?_
      rw [HE.out]
      exact ⟨none, 0, rfl, World.ownsRow_nil _ _ _ _, hbs⟩
  · have HE : Hid (wholeF l kind = (Fr.none, er)) := Lib.hid (by unfold wholeF; rw [HX.out]; simp only; rw [if_pos he])
    have heb : ((er : Int) != 0) = true := by rw [bne_iff_ne]; omega
    clear he
    have s0 := set3_0 (u := .int .i64 0) h2
    have s1 := set3_1 (u := .int .i64 0) s0
    have s2 := set3_2 (u := .slice none 0 0) s1
    obtain ⟨d0, d1, d2, _, _, _⟩ := laid3 s2
    obtain ⟨v0, v1, v2, f0, f1, f2⟩ := laid3 h2
    have g1 : (wm.setCell ⟨w.heap.size, 0, none⟩ (.int .i64 0)).frozen? ⟨w.heap.size, 1, none⟩ = false := free_blk s0
    have g2 : ((wm.setCell ⟨w.heap.size, 0, none⟩ (.int .i64 0)).setCell ⟨w.heap.size, 1, none⟩ (.int .i64 0)).frozen? ⟨w.heap.size, 2, none⟩ = false := free_blk s1
    have hbs := below_set3 (x := .int .i64 0) (y := .int .i64 0) (z := .slice none 0 0) hb2 (Nat.le_refl _)
    clear s0 s1 s2 h2 h0
    go_wp2_with fail
    refine bodyPost_ret (v := .tuple #[.agg #[.int .i64 0, .int .i64 0, .slice none 0 0], .int .i64 (er : Int)]) (by simp [results, Tryd.results21, go_sem, d0, d1, d2]) rfl ?_
    rw [HE.out]
    exact ⟨none, 0, rfl, World.ownsRow_nil _ _ _ _, hbs⟩

set_option maxHeartbeats 1600000 in
theorem rwhole_any (a : Option Addr) (n c : Nat) (l : List UInt8) (kind : Int) (w : World) (r : RowAt w a n c 1 (l.map B)) :
    Calls Tryd.prog 22 #[.slice a n c, .int .i64 kind] w (GivesW 5 w (wholeF l kind)) := by
  have e1 : l.length = n := by simpa using r.len
  have HL := Lib.hid e1
  clear e1
  have hb0 := below_made w (.cells #[.int .i64 0, .int .i64 0, .slice none 0 0] 29)
  have h0 := heap_alloc_new w (.cells #[.int .i64 0, .int .i64 0, .slice none 0 0] 29)
  have hz0 : w.heap.size < (w.alloc (.cells #[.int .i64 0, .int .i64 0, .slice none 0 0] 29)).heap.size := by simp
  have r0 := r.below hb0
  go_enter Tryd.func22, Tryd.ntmps22
  go_wp2_with fail
  (with_reducible refine (frdec_any _ _ _ l _ r0).mono ?_)
  rintro e w1 ⟨a1, c1, rfl, ho1, hb1⟩
  obtain ⟨x, hx⟩ : ∃ x, decF l = x := ⟨_, rfl⟩
  obtain ⟨f, q, er⟩ := x
  have HX := Lib.hid hx
  rw [hx] at ho1 ⊢
  simp only at ho1 ⊢
  go_upto_region 2 with (fail)
  have hbm := below_made w1 (.cells #[.int .i64 (f.kind : Int), .int .i64 (f.seq : Int), .slice a1 f.body.length c1] 29)
  have hf := heap_alloc_new w1 (.cells #[.int .i64 (f.kind : Int), .int .i64 (f.seq : Int), .slice a1 f.body.length c1] 29)
  have h1 := (hb1.block _ hz0).trans h0
  have hz1 : w.heap.size < w1.heap.size := by have := hb1.size; omega
  have h2 := (hbm.block _ hz1).trans h1
  have hb2 := below_next (below_next hb0 hb1) hbm
  have ho2 := own_below ho1 hbm
  obtain ⟨wm, hwm⟩ : ∃ wm, w1.alloc (.cells #[.int .i64 (f.kind : Int), .int .i64 (f.seq : Int), .slice a1 f.body.length c1] 29) = wm := ⟨_, rfl⟩
  rw [hwm] at hf h2 hb2 ho2 ⊢
  obtain ⟨x0, x1, x2, _, _, _⟩ := laid3 hf
  clear hx hf h1 hbm hb0 hwm
  by_cases he : er = 0
  · subst he
    by_cases hk : (f.kind : Int) = kind
    · by_cases hq : q = n
      · have HE : Hid (wholeF l kind = (f, 0)) := Lib.hid (by unfold wholeF; rw [HX.out]; simp only; rw [if_neg (by simp), if_neg (by rw [HL.out]; omega)])
        subst hk hq
        have s0 := set3_0 (u := .int .i64 (f.kind : Int)) h2
        have s1 := set3_1 (u := .int .i64 (f.seq : Int)) s0
        have s2 := set3_2 (u := .slice a1 f.body.length c1) s1
        obtain ⟨d0, d1, d2, _, _, _⟩ := laid3 s2
        obtain ⟨v0, v1, v2, f0, f1, f2⟩ := laid3 h2
        have g1 : (wm.setCell ⟨w.heap.size, 0, none⟩ (.int .i64 (f.kind : Int))).frozen? ⟨w.heap.size, 1, none⟩ = false := free_blk s0
        have g2 : ((wm.setCell ⟨w.heap.size, 0, none⟩ (.int .i64 (f.kind : Int))).setCell ⟨w.heap.size, 1, none⟩ (.int .i64 (f.seq : Int))).frozen? ⟨w.heap.size, 2, none⟩ = false := free_blk s1
        have hbs := below_set3 (x := .int .i64 (f.kind : Int)) (y := .int .i64 (f.seq : Int)) (z := .slice a1 f.body.length c1) hb2 (Nat.le_refl _)
        have hos := own_set3 (x := .int .i64 (f.kind : Int)) (y := .int .i64 (f.seq : Int)) (z := .slice a1 f.body.length c1) (b := w.heap.size) ho2 (fun e => by have := (ho2.lt _ e).1; omega)
        clear s0 s1 s2 h2 h0
        go_wp2_with fail
        refine bodyPost_ret (v := .tuple #[.agg #[.int .i64 (f.kind : Int), .int .i64 (f.seq : Int), .slice a1 f.body.length c1], .int .i64 0]) (by simp [results, Tryd.results22, go_sem, d0, d1, d2]) rfl ?_
        rw [HE.out]
        exact ⟨a1, c1, rfl, own_mono hos (by have := hb1.size; omega), hbs⟩
      · have HE : Hid (wholeF l kind = (Fr.none, 63)) := Lib.hid (by unfold wholeF; rw [HX.out]; simp only; rw [if_neg (by simp), if_pos (by rw [HL.out]; omega)])
        have hqb : ((q : Int) != (n : Int)) = true := by rw [bne_iff_ne]; omega
        subst hk
        have s0 := set3_0 (u := .int .i64 0) h2
        have s1 := set3_1 (u := .int .i64 0) s0
        have s2 := set3_2 (u := .slice none 0 0) s1
        obtain ⟨d0, d1, d2, _, _, _⟩ := laid3 s2
        obtain ⟨v0, v1, v2, f0, f1, f2⟩ := laid3 h2
        have g1 : (wm.setCell ⟨w.heap.size, 0, none⟩ (.int .i64 0)).frozen? ⟨w.heap.size, 1, none⟩ = false := free_blk s0
        have g2 : ((wm.setCell ⟨w.heap.size, 0, none⟩ (.int .i64 0)).setCell ⟨w.heap.size, 1, none⟩ (.int .i64 0)).frozen? ⟨w.heap.size, 2, none⟩ = false := free_blk s1
        have hbs := below_set3 (x := .int .i64 0) (y := .int .i64 0) (z := .slice none 0 0) hb2 (Nat.le_refl _)
        clear s0 s1 s2 h2 h0
        go_wp2_with fail
        refine bodyPost_ret (v := .tuple #[.agg #[.int .i64 0, .int .i64 0, .slice none 0 0], .int .i64 63]) (by simp [results, Tryd.results22, go_sem, d0, d1, d2]) rfl ?_
        rw [HE.out]
        exact ⟨none, 0, rfl, World.ownsRow_nil _ _ _ _, hbs⟩
    · have HE : Hid (wholeF l kind = (Fr.none, 63)) := Lib.hid (by unfold wholeF; rw [HX.out]; simp only; rw [if_neg (by simp), if_pos (by omega)])
      have hkb : ((f.kind : Int) != kind) = true := by rw [bne_iff_ne]; exact hk
      clear hk
      have s0 := set3_0 (u := .int .i64 0) h2
      have s1 := set3_1 (u := .int .i64 0) s0
      have s2 := set3_2 (u := .slice none 0 0) s1
      obtain ⟨d0, d1, d2, _, _, _⟩ := laid3 s2
      obtain ⟨v0, v1, v2, f0, f1, f2⟩ := laid3 h2
      have g1 : (wm.setCell ⟨w.heap.size, 0, none⟩ (.int .i64 0)).frozen? ⟨w.heap.size, 1, none⟩ = false := free_blk s0
      have g2 : ((wm.setCell ⟨w.heap.size, 0, none⟩ (.int .i64 0)).setCell ⟨w.heap.size, 1, none⟩ (.int .i64 0)).frozen? ⟨w.heap.size, 2, none⟩ = false := free_blk s1
      have hbs := below_set3 (x := .int .i64 0) (y := .int .i64 0) (z := .slice none 0 0) hb2 (Nat.le_refl _)
      clear s0 s1 s2 h2 h0
      go_wp2_with fail
      refine bodyPost_ret (v := .tuple #[.agg #[.int .i64 0, .int .i64 0, .slice none 0 0], .int .i64 63]) (by simp [results, Tryd.results22, go_sem, d0, d1, d2]) rfl ?_
      rw [HE.out]
      exact ⟨none, 0, rfl, World.ownsRow_nil _ _ _ _, hbs⟩
  · have HE : Hid (wholeF l kind = (Fr.none, er)) := Lib.hid (by unfold wholeF; rw [HX.out]; simp only; rw [if_pos he])
    have heb : ((er : Int) != 0) = true := by rw [bne_iff_ne]; omega
    clear he
    have s0 := set3_0 (u := .int .i64 0) h2
    have s1 := set3_1 (u := .int .i64 0) s0
    have s2 := set3_2 (u := .slice none 0 0) s1
    obtain ⟨d0, d1, d2, _, _, _⟩ := laid3 s2
    obtain ⟨v0, v1, v2, f0, f1, f2⟩ := laid3 h2
    have g1 : (wm.setCell ⟨w.heap.size, 0, none⟩ (.int .i64 0)).frozen? ⟨w.heap.size, 1, none⟩ = false := free_blk s0
    have g2 : ((wm.setCell ⟨w.heap.size, 0, none⟩ (.int .i64 0)).setCell ⟨w.heap.size, 1, none⟩ (.int .i64 0)).frozen? ⟨w.heap.size, 2, none⟩ = false := free_blk s1
    have hbs := below_set3 (x := .int .i64 0) (y := .int .i64 0) (z := .slice none 0 0) hb2 (Nat.le_refl _)
    clear s0 s1 s2 h2 h0
    go_wp2_with fail
    refine bodyPost_ret (v := .tuple #[.agg #[.int .i64 0, .int .i64 0, .slice none 0 0], .int .i64 (er : Int)]) (by simp [results, Tryd.results22, go_sem, d0, d1, d2]) rfl ?_
    rw [HE.out]
    exact ⟨none, 0, rfl, World.ownsRow_nil _ _ _ _, hbs⟩


theorem enc21 : encF 2 1 [] = (frameF 2 1 [], 0) := rfl
theorem whole21 : wholeF (frameF 2 1 []) 2 = (⟨2, 1, []⟩, 0) := by
  have := decF_laid (kind := 2) (seq := 1) (body := []) (by decide) (by decide) (by decide) (by decide) []
  rw [List.append_nil] at this
  have hl := frameF_len 2 1 []
  unfold wholeF
  rw [this]
  simp [hl]

theorem whole_err_le (l : List UInt8) (kind : Int) : (wholeF l kind).2 ≤ 63 := by
  unfold wholeF
  split
  · have := peekF_bd l
    unfold decF
    split
    · simp only; omega
    · split
      · simp
      · split <;> simp
  · split <;> simp

set_option maxHeartbeats 1600000 in
theorem fwholes_walk (a : Option Addr) (n c : Nat) (l : List UInt8) (kind : Int) (w : World) (r : RowAt w a n c 1 (l.map B)) (hs : n * 1 ≤ 140737488351232) (k0 : -9223372036854775808 ≤ kind) (k1 : kind ≤ 9223372036854775807) (ht : Tab w) :
    Calls Tryd.prog 8 #[.slice a n c, .int .i64 kind] w fun e w' => e = .returned (.bool true) ∧ Below w.heap.size w w' := by
  have hml : l.length = n := by simpa using r.len
  have HL := Lib.hid hml
  have HE := Lib.hid enc21
  have HW := Lib.hid whole21
  clear hml
  obtain ⟨D, hD⟩ : ∃ D, frameF 2 1 [] = D := ⟨_, rfl⟩
  rw [hD] at HE HW
  clear hD
  go_enter Tryd.func8, Tryd.ntmps8
  go_wp2_with fail
  (with_reducible refine (fenc_any 2 1 _ _ _ [] _ (RowAt.nil _ _) ht).mono ?_)
  rintro e w1 ⟨a1, c1, rfl, ho1, hb1⟩
  rw [HE.out] at ho1 ⊢
  have t1 := ht.below hb1
  have r1 := r.below hb1
  have q1 := own_rowAt ho1
  clear ho1
  go_wp2_with fail
  (with_reducible refine (whole_any _ _ _ D 2 _ q1 t1).mono ?_)
  rintro e w2 ⟨a2, c2, rfl, ho2, hb2⟩
  rw [HW.out]
  simp only [List.length_nil]
  have hbm := below_made w2 (.cells #[.int .i64 2, .int .i64 1, .slice a2 0 c2] 29)
  have t2 := (t1.below hb2).below hbm
  have r2 := (r1.below hb2).below hbm
  have hb3 := below_next (below_next hb1 hb2) hbm
  clear hbm ho2 hb1 hb2 t1 r1 q1
  go_wp2_with fail
  (with_reducible refine (rwhole_any _ _ _ l kind _ r2).mono ?_)
  rintro e w4 ⟨a4, c4, rfl, ho4, hb4⟩
  obtain ⟨x, hx⟩ : ∃ x, wholeF l kind = x := ⟨_, rfl⟩
  obtain ⟨f, er⟩ := x
  have HX := Lib.hid hx
  rw [hx] at ho4 ⊢
  simp only at ho4 ⊢
  clear hx
  have h4 := heap_alloc_new w4 (.cells #[.int .i64 (f.kind : Int), .int .i64 (f.seq : Int), .slice a4 f.body.length c4] 29)
  have z4 : w4.heap.size < (w4.alloc (.cells #[.int .i64 (f.kind : Int), .int .i64 (f.seq : Int), .slice a4 f.body.length c4] 29)).heap.size := by simp
  have hbm := below_made w4 (.cells #[.int .i64 (f.kind : Int), .int .i64 (f.seq : Int), .slice a4 f.body.length c4] 29)
  have t4 := (t2.below hb4).below hbm
  have r4 := (r2.below hb4).below hbm
  have q4 := (own_rowAt ho4).below hbm
  have hb5 := below_next (below_next hb3 hb4) hbm
  clear hbm ho4 hb3 hb4 t2 r2
  go_wp2_with fail
  (with_reducible refine (copy_any _ _ _ l _ (by omega) r4).mono ?_)
  rintro e w5 ⟨a5, c5, rfl, ho5, hb6⟩
  rw [HL.out] at ho5 ⊢
  have q5 := own_rowAt ho5
  have t5 := t4.below hb6
  have f5 := q4.below hb6
  have h5 := (hb6.block _ z4).trans h4
  have z5 : w4.heap.size < w5.heap.size := by have := hb6.size; omega
  have hb7 := below_next hb5 hb6
  clear ho5 hb5 hb6 t4 r4 q4 h4
  go_wp2_with fail
  (with_reducible refine (whole_any _ _ _ l kind _ q5 t5).mono ?_)
  rintro e w6 ⟨a6, c6, rfl, ho6, hb8⟩
  rw [HX.out] at ho6 ⊢
  simp only at ho6 ⊢
  have f6 := f5.below hb8
  have h6 := (hb8.block _ z5).trans h5
  have z6 : w4.heap.size < w6.heap.size := by have := hb8.size; omega
  have hbm := below_made w6 (.cells #[.int .i64 (f.kind : Int), .int .i64 (f.seq : Int), .slice a6 f.body.length c6] 29)
  have h7 := (hbm.block _ z6).trans h6
  have f7 := f6.below hbm
  have g7 := (own_rowAt ho6).below hbm
  obtain ⟨x0, x1, x2, _, _, _⟩ := laid3 h7
  have hb9 := below_next (below_next hb7 hb8) hbm
  clear hbm ho6 hb7 hb8 f5 f6 h5 h6 q5 t5
  go_wp2_with fail
  (with_reducible refine (fsame_any (f.kind : Int) (f.seq : Int) _ _ _ f.body (f.kind : Int) (f.seq : Int) _ _ _ f.body _ f7 g7).mono ?_)
  rintro e w8 ⟨rfl, hb10⟩
  rw [frEq_refl]
  go_wp2_with fail
  go_ret
  exact ⟨ret_bool (by simp), below_next hb9 hb10⟩
end Go.Proofs.YtlhhbackaifohaaDoor

