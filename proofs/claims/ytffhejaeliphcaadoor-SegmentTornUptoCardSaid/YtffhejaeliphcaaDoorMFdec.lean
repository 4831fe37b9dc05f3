/-
  The walk of Decode of a frame. Conditions: the argument reads as bytes; the program's table of nibbles holds what its text lays.
-/
import Derived.Test.YtffhejaeliphcaaDoorMFwalk
import Derived.Test.YtffhejaeliphcaaDoorMBase
namespace Go.Proofs.YtffhejaeliphcaaDoor
open Go.RowKit
set_option linter.unusedVariables false

/-- The word of a contract that gives a frame whose body is in new memory, a size, an error's number. -/
def GivesF (eB : TypeId) (w : World) (x : Fr × Nat × Nat) (e : Ending) (w' : World) : Prop :=
  ∃ a cap, e = .returned (.tuple #[.agg #[.int .i64 (x.1.kind : Int), .int .i64 (x.1.seq : Int), .slice a x.1.body.length cap], .int .i64 (x.2.1 : Int), .int .i64 (x.2.2 : Int)]) ∧
    w'.ownsRow w.heap.size eB 1 (.slice a x.1.body.length cap) x.1.body.length (x.1.body.map B) ∧ Below w.heap.size w w'

set_option maxHeartbeats 1600000 in
theorem fdec_any (a : Option Addr) (n c : Nat) (l : List UInt8) (w : World) (r : RowAt w a n c 1 (l.map B)) (ht : Tab w) :
    Calls Tryd.prog 34 #[.slice a n c] w (GivesF 5 w (decF l)) := by
  have e1 : l.length = n := by simpa using r.len
  have m1 := r.2.2.1
  have m2 := r.2.1
  unfold maxLen at m1
  have hb0 := below_made w (.cells #[.int .i64 0, .int .i64 0, .slice none 0 0] 53)
  have h0 := heap_alloc_new w (.cells #[.int .i64 0, .int .i64 0, .slice none 0 0] 53)
  have hz0 : w.heap.size < (w.alloc (.cells #[.int .i64 0, .int .i64 0, .slice none 0 0] 53)).heap.size := by simp
  have r0 := r.below hb0
  have ht0 := ht.below hb0
  obtain ⟨p1, p2, p3, p4, p5⟩ := peekF_bd l
  obtain ⟨y, hy⟩ : ∃ y, peekF l = y := ⟨_, rfl⟩
  obtain ⟨kind, seq, size, e⟩ := y
  rw [hy] at p1 p2 p3 p4 p5
  simp only at p1 p2 p3 p4 p5
  have HP : Hid (peekV l = .tuple #[.int .i64 (kind : Int), .int .i64 (seq : Int), .int .i64 (size : Int), .int .i64 (e : Int)]) := Lib.hid (by unfold peekV; rw [hy])
  have HD : Hid (decF l = if e ≠ 0 then (Fr.none, 0, e) else if l.length < size then (Fr.none, 0, 60) else if closedB ((l.take size).drop 16) = false then (Fr.none, 0, 62) else (⟨kind, seq, (l.take (size - 4)).drop 16⟩, size, 0)) := Lib.hid (by unfold decF; rw [hy])
  have H1 := Lib.hid e1
  clear hy
  by_cases he : e = 0
  · subst he
    obtain ⟨p6, p7, p8, p9⟩ := p5 rfl
    have HP0 : Hid (peekV l = .tuple #[.int .i64 (kind : Int), .int .i64 (seq : Int), .int .i64 (size : Int), .int .i64 0]) := Lib.hid HP.out
    clear p5 HP
    by_cases hs : n < size
    · have HE : Hid (decF l = (Fr.none, 0, 60)) := Lib.hid (by rw [HD.out, if_neg (by simp), if_pos (by omega)])
      clear e1 p8
      go_enter Tryd.func34, Tryd.ntmps34
      go_wp2_with fail
      (with_reducible refine (peek_any _ _ _ l _ r0 ht0).mono ?_)
      rintro e w1 ⟨rfl, hb1⟩
      rw [HP0.out]
      have h1 := (hb1.block _ hz0).trans h0
      have L1 := laid3 h1
      obtain ⟨c0, c1, c2, f0, f1, f2⟩ := L1
      have s0 := set3_0 (u := .int .i64 0) h1
      have s1 := set3_1 (u := .int .i64 0) s0
      have s2 := set3_2 (u := .slice none 0 0) s1
      obtain ⟨d0, d1, d2, _, _, _⟩ := laid3 s2
      have g1 : ((w1.setCell ⟨w.heap.size, 0, none⟩ (.int .i64 0))).frozen? ⟨w.heap.size, 1, none⟩ = false := free_blk s0
      have g2 : ((w1.setCell ⟨w.heap.size, 0, none⟩ (.int .i64 0)).setCell ⟨w.heap.size, 1, none⟩ (.int .i64 0)).frozen? ⟨w.heap.size, 2, none⟩ = false := free_blk s1
      have hbs := below_set3 (x := .int .i64 0) (y := .int .i64 0) (z := .slice none 0 0) (below_next hb0 hb1) (Nat.le_refl _)
      clear s0 s1 s2 h1 h0
      go_wp2_with fail
      refine bodyPost_ret (v := .tuple #[.agg #[.int .i64 0, .int .i64 0, .slice none 0 0], .int .i64 0, .int .i64 60]) (by simp [results, Tryd.results34, go_sem, d0, d1, d2]) rfl ?_
      rw [HE.out]
      exact ⟨none, 0, rfl, World.ownsRow_nil _ _ _ _, hbs⟩
    · obtain ⟨a2, hcut, rr⟩ : ∃ a2, (∀ wx, (Instr.slice 22 (.slice a n c) (some (.int .i64 16)) (some (.int .i64 (size : Int))) (some (.int .i64 (size : Int)))).run Tryd.prog wx = .ok (.slice a2 (size - 16) (size - 16)) wx) ∧ RowAt w a2 (size - 16) (size - 16) 1 (((l.take size).drop 16).map B) := by
        refine ⟨_, fun wx => run_cut3 slB wx 16 size size (by omega) (Nat.le_refl _) (by omega), ?_⟩
        have h1 := (rowB_upto r (show size ≤ n by omega))
        have h2 : RowAt w a size size 1 ((l.take size).map B) := ⟨h1.1, Nat.le_refl _, by unfold maxLen; omega, h1.2.2.2⟩
        have h3 := h2.from 16 (by omega)
        rwa [Nat.mul_one, ← List.map_drop] at h3
      have rr0 := rr.below hb0
      have hzi : ((size : Int) - 16).toNat = size - 16 := by omega
      obtain ⟨z, hz⟩ : ∃ z, closedB ((l.take size).drop 16) = z := ⟨_, rfl⟩
      have HZ := Lib.hid hz
      cases z with
      | false =>
        have HE : Hid (decF l = (Fr.none, 0, 62)) := Lib.hid (by rw [HD.out, if_neg (by simp), if_neg (by omega), hz, if_pos rfl])
        clear e1 p8 hz
        go_enter Tryd.func34, Tryd.ntmps34
        go_wp2_with fail
        (with_reducible refine (peek_any _ _ _ l _ r0 ht0).mono ?_)
        rintro e w1 ⟨rfl, hb1⟩
        rw [HP0.out]
        have rr1 := rr0.below hb1
        have ht1 := ht0.below hb1
        go_wp2_with fail
        (with_reducible refine (closedB_any _ _ _ ((l.take size).drop 16) _ rr1 ht1).mono ?_)
        rintro e w2 ⟨rfl, hb2⟩
        rw [HZ.out]
        have hbx := below_next hb1 hb2
        have h1 := (hbx.block _ hz0).trans h0
        obtain ⟨c0, c1, c2, f0, f1, f2⟩ := laid3 h1
        have s0 := set3_0 (u := .int .i64 0) h1
        have s1 := set3_1 (u := .int .i64 0) s0
        have s2 := set3_2 (u := .slice none 0 0) s1
        obtain ⟨d0, d1, d2, _, _, _⟩ := laid3 s2
        have g1 : ((w2.setCell ⟨w.heap.size, 0, none⟩ (.int .i64 0))).frozen? ⟨w.heap.size, 1, none⟩ = false := free_blk s0
        have g2 : ((w2.setCell ⟨w.heap.size, 0, none⟩ (.int .i64 0)).setCell ⟨w.heap.size, 1, none⟩ (.int .i64 0)).frozen? ⟨w.heap.size, 2, none⟩ = false := free_blk s1
        have hbs := below_set3 (x := .int .i64 0) (y := .int .i64 0) (z := .slice none 0 0) (below_next hb0 hbx) (Nat.le_refl _)
        clear s0 s1 s2 h1 h0
        go_wp2_with fail
        refine bodyPost_ret (v := .tuple #[.agg #[.int .i64 0, .int .i64 0, .slice none 0 0], .int .i64 0, .int .i64 62]) (by simp [results, Tryd.results34, go_sem, d0, d1, d2]) rfl ?_
        rw [HE.out]
        exact ⟨none, 0, rfl, World.ownsRow_nil _ _ _ _, hbs⟩
      | true =>
        have HE : Hid (decF l = (⟨kind, seq, (l.take (size - 4)).drop 16⟩, size, 0)) := Lib.hid (by rw [HD.out, if_neg (by simp), if_neg (by omega), hz, if_neg (by simp)])
        have hbl : ((l.take (size - 4)).drop 16).length = size - 20 := by rw [List.length_drop, List.length_take]; omega
        have hbody : ((l.take size).drop 16).take (size - 20) = (l.take (size - 4)).drop 16 := by rw [List.take_drop, List.take_take]; congr 2; omega
        obtain ⟨D, hDD⟩ : ∃ D, (l.take (size - 4)).drop 16 = D := ⟨_, rfl⟩
        rw [hDD] at HE hbl hbody
        have HB := Lib.hid hbl
        clear hDD
        have HY := Lib.hid hbody
        have hcut2 : ∀ wx, (Instr.slice 22 (.slice a2 (size - 16) (size - 16)) none (some (.int .i64 ((size - 20 : Nat) : Int))) none).run Tryd.prog wx = .ok (.slice a2 (size - 20) (size - 16)) wx := fun wx => run_cut0 slB wx (size - 20) (by omega)
        have hci : ((size - 16 : Nat) : Int) - 4 = ((size - 20 : Nat) : Int) := by omega
        have ha2 : a2 = none → size - 20 = 0 := by
          rintro rfl
          rcases rr.2.2.2 with h | ⟨b, o, h, _⟩
          · omega
          · cases h
        have HA := Lib.hid ha2
        clear e1 p8 hz hbl hbody ha2
        go_enter Tryd.func34, Tryd.ntmps34
        go_wp2_with fail
        (with_reducible refine (peek_any _ _ _ l _ r0 ht0).mono ?_)
        rintro e w1 ⟨rfl, hb1⟩
        rw [HP0.out]
        have rr1 := rr0.below hb1
        have ht1 := ht0.below hb1
        go_wp2_with fail
        (with_reducible refine (closedB_any _ _ _ ((l.take size).drop 16) _ rr1 ht1).mono ?_)
        rintro e w2 ⟨rfl, hb2⟩
        rw [HZ.out]
        have hbx := below_next hb1 hb2
        have rr2 := rr1.below hb2
        have hbod : RowAt w2 a2 (size - 20) (size - 16) 1 (D.map B) := by
          have := rowB_upto rr2 (show size - 20 ≤ size - 16 by omega)
          rw [HY.out] at this
          exact this
        go_wp2_with fail
        (with_reducible refine (clone_any _ _ _ D _ (by omega) hbod HA.out).mono ?_)
        rintro e w3 ⟨a3, c3, rfl, ho3, hb3⟩
        have hby := below_next hbx hb3
        have h1 := (hby.block _ hz0).trans h0
        obtain ⟨c0, c1, c2, f0, f1, f2⟩ := laid3 h1
        have s0 := set3_0 (u := .int .i64 (kind : Int)) h1
        have s1 := set3_1 (u := .int .i64 (seq : Int)) s0
        have s2 := set3_2 (u := .slice a3 D.length c3) s1
        obtain ⟨d0, d1, d2, _, _, _⟩ := laid3 s2
        have g1 : ((w3.setCell ⟨w.heap.size, 0, none⟩ (.int .i64 (kind : Int)))).frozen? ⟨w.heap.size, 1, none⟩ = false := free_blk s0
        have g2 : ((w3.setCell ⟨w.heap.size, 0, none⟩ (.int .i64 (kind : Int))).setCell ⟨w.heap.size, 1, none⟩ (.int .i64 (seq : Int))).frozen? ⟨w.heap.size, 2, none⟩ = false := free_blk s1
        have hbs := below_set3 (x := .int .i64 (kind : Int)) (y := .int .i64 (seq : Int)) (z := .slice a3 D.length c3) (below_next hb0 hby) (Nat.le_refl _)
        have hos := own_set3 (x := .int .i64 (kind : Int)) (y := .int .i64 (seq : Int)) (z := .slice a3 D.length c3) (b := w.heap.size) ho3 (fun e => by have := (ho3.lt _ e).1; have := hbx.size; omega)
        have hww : w.heap.size ≤ w2.heap.size := by have := hbx.size; omega
        clear s0 s1 s2 h1 h0
        go_wp2_with fail
        refine bodyPost_ret (v := .tuple #[.agg #[.int .i64 (kind : Int), .int .i64 (seq : Int), .slice a3 D.length c3], .int .i64 (size : Int), .int .i64 0]) (by simp [results, Tryd.results34, go_sem, d0, d1, d2]) rfl ?_
        rw [HE.out]
        exact ⟨a3, c3, rfl, own_mono hos hww, hbs⟩
  · have HE : Hid (decF l = (Fr.none, 0, e)) := Lib.hid (by rw [HD.out, if_pos he])
    have heb : ((e : Int) != 0) = true := by rw [bne_iff_ne]; omega
    clear e1 p5 he
    go_enter Tryd.func34, Tryd.ntmps34
    go_wp2_with fail
    (with_reducible refine (peek_any _ _ _ l _ r0 ht0).mono ?_)
    rintro e' w1 ⟨rfl, hb1⟩
    rw [HP.out]
    have h1 := (hb1.block _ hz0).trans h0
    obtain ⟨c0, c1, c2, f0, f1, f2⟩ := laid3 h1
    have s0 := set3_0 (u := .int .i64 0) h1
    have s1 := set3_1 (u := .int .i64 0) s0
    have s2 := set3_2 (u := .slice none 0 0) s1
    obtain ⟨d0, d1, d2, _, _, _⟩ := laid3 s2
    have g1 : ((w1.setCell ⟨w.heap.size, 0, none⟩ (.int .i64 0))).frozen? ⟨w.heap.size, 1, none⟩ = false := free_blk s0
    have g2 : ((w1.setCell ⟨w.heap.size, 0, none⟩ (.int .i64 0)).setCell ⟨w.heap.size, 1, none⟩ (.int .i64 0)).frozen? ⟨w.heap.size, 2, none⟩ = false := free_blk s1
    have hbs := below_set3 (x := .int .i64 0) (y := .int .i64 0) (z := .slice none 0 0) (below_next hb0 hb1) (Nat.le_refl _)
    clear s0 s1 s2 h1 h0
    go_wp2_with fail
    refine bodyPost_ret (v := .tuple #[.agg #[.int .i64 0, .int .i64 0, .slice none 0 0], .int .i64 0, .int .i64 (e : Int)]) (by simp [results, Tryd.results34, go_sem, d0, d1, d2]) rfl ?_
    rw [HE.out]
    exact ⟨none, 0, rfl, World.ownsRow_nil _ _ _ _, hbs⟩
end Go.Proofs.YtffhejaeliphcaaDoor
