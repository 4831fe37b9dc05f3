/-
  The walks of the reference's Decode of a frame and of Same. Condition: the arguments read as bytes.
-/
import Derived.Test.YtffhejaeliphcaaDoorMFrwalk
namespace Go.Proofs.YtffhejaeliphcaaDoor
open Go.RowKit
set_option linter.unusedVariables false

theorem closed_rest {l : List UInt8} {size : Nat} (h1 : 20 ≤ size) (h2 : size ≤ l.length) : (((l.take size).drop (size - 4)) == four (sumN 0 ((l.take (size - 4)).drop 16))) = closedB ((l.take size).drop 16) := by
  have e1 : ((l.take size).drop 16).length = size - 16 := by rw [List.length_drop, List.length_take]; omega
  unfold closedB
  rw [e1]
  have e2 : ((l.take size).drop 16).take (size - 16 - 4) = (l.take (size - 4)).drop 16 := by
    rw [List.take_drop, List.take_take]; congr 2; omega
  have e3 : ((l.take size).drop 16).drop (size - 16 - 4) = (l.take size).drop (size - 4) := by
    rw [List.drop_drop]; congr 1; omega
  rw [e2, e3]
  simp only [show (4 ≤ size - 16) = True by simp; omega, decide_true, Bool.true_and]
  rw [Bool.eq_iff_iff, beq_iff_eq, beq_iff_eq]
  exact ⟨Eq.symm, Eq.symm⟩

set_option maxHeartbeats 1600000 in
theorem frdec_any (a : Option Addr) (n c : Nat) (l : List UInt8) (w : World) (r : RowAt w a n c 1 (l.map B)) :
    Calls Tryd.prog 30 #[.slice a n c] w (GivesF 5 w (decF l)) := by
  have e1 : l.length = n := by simpa using r.len
  have m1 := r.2.2.1
  have m2 := r.2.1
  unfold maxLen at m1
  have hb0 := below_made w (.cells #[.int .i64 0, .int .i64 0, .slice none 0 0] 53)
  have h0 := heap_alloc_new w (.cells #[.int .i64 0, .int .i64 0, .slice none 0 0] 53)
  have hz0 : w.heap.size < (w.alloc (.cells #[.int .i64 0, .int .i64 0, .slice none 0 0] 53)).heap.size := by simp
  have r0 := r.below hb0
  obtain ⟨p1, p2, p3, p4, p5⟩ := peekF_bd l
  obtain ⟨y, hy⟩ : ∃ y, peekF l = y := ⟨_, rfl⟩
  obtain ⟨kind, seq, size, e⟩ := y
  rw [hy] at p1 p2 p3 p4 p5
  simp only at p1 p2 p3 p4 p5
  have HP : Hid (peekV l = .tuple #[.int .i64 (kind : Int), .int .i64 (seq : Int), .int .i64 (size : Int), .int .i64 (e : Int)]) := Lib.hid (by unfold peekV; rw [hy])
  have HD : Hid (decF l = if e ≠ 0 then (Fr.none, 0, e) else if l.length < size then (Fr.none, 0, 60) else if closedB ((l.take size).drop 16) = false then (Fr.none, 0, 62) else (⟨kind, seq, (l.take (size - 4)).drop 16⟩, size, 0)) := Lib.hid (by unfold decF; rw [hy])
  have H1 := Lib.hid e1
  clear hy
  by_cases he : e = 0
  · subst he
    obtain ⟨p6, p7, p8, p9⟩ := p5 rfl
    have HP0 : Hid (peekV l = .tuple #[.int .i64 (kind : Int), .int .i64 (seq : Int), .int .i64 (size : Int), .int .i64 0]) := Lib.hid HP.out
    clear p5 HP
    by_cases hs : n < size
    · have HE : Hid (decF l = (Fr.none, 0, 60)) := Lib.hid (by rw [HD.out, if_neg (by simp), if_pos (by omega)])
      clear e1 p8
      go_enter Tryd.func30, Tryd.ntmps30
      go_wp2_with fail
      (with_reducible refine (rpeek_any _ _ _ l _ r0).mono ?_)
      rintro e w1 ⟨rfl, hb1⟩
      rw [HP0.out]
      have h1 := (hb1.block _ hz0).trans h0
      obtain ⟨c0, c1, c2, f0, f1, f2⟩ := laid3 h1
      have s0 := set3_0 (u := .int .i64 0) h1
      have s1 := set3_1 (u := .int .i64 0) s0
      have s2 := set3_2 (u := .slice none 0 0) s1
      obtain ⟨d0, d1, d2, _, _, _⟩ := laid3 s2
      have g1 : ((w1.setCell ⟨w.heap.size, 0, none⟩ (.int .i64 0))).frozen? ⟨w.heap.size, 1, none⟩ = false := free_blk s0
      have g2 : ((w1.setCell ⟨w.heap.size, 0, none⟩ (.int .i64 0)).setCell ⟨w.heap.size, 1, none⟩ (.int .i64 0)).frozen? ⟨w.heap.size, 2, none⟩ = false := free_blk s1
      have hbs := below_set3 (x := .int .i64 0) (y := .int .i64 0) (z := .slice none 0 0) (below_next hb0 hb1) (Nat.le_refl _)
      clear s0 s1 s2 h1 h0
      go_wp2_with fail
      refine bodyPost_ret (v := .tuple #[.agg #[.int .i64 0, .int .i64 0, .slice none 0 0], .int .i64 0, .int .i64 60]) (by simp [results, Tryd.results30, go_sem, d0, d1, d2]) rfl ?_
      rw [HE.out]
      exact ⟨none, 0, rfl, World.ownsRow_nil _ _ _ _, hbs⟩
    · obtain ⟨D, hDD⟩ : ∃ D, (l.take (size - 4)).drop 16 = D := ⟨_, rfl⟩
      obtain ⟨a2, hcut, rr⟩ : ∃ a2, (∀ wx, (Instr.slice 22 (.slice a n c) (some (.int .i64 16)) (some (.int .i64 ((size : Int) - 4))) none).run Tryd.prog wx = .ok (.slice a2 (size - 4 - 16) (c - 16)) wx) ∧ RowAt w a2 (size - 4 - 16) (c - 16) 1 (D.map B) := by
        obtain ⟨a2, h2, h3⟩ := cut_mid slB r 16 (size - 4) (by omega) (by omega)
        rw [show ((size - 4 : Nat) : Int) = (size : Int) - 4 by omega] at h2
        refine ⟨a2, h2, ?_⟩
        rwa [Nat.mul_one, Nat.mul_one, ← List.map_take, ← List.map_drop, hDD] at h3
      obtain ⟨a4, hcut4, r4⟩ : ∃ a4, (∀ wx, (Instr.slice 22 (.slice a n c) (some (.int .i64 ((size : Int) - 4))) (some (.int .i64 (size : Int))) none).run Tryd.prog wx = .ok (.slice a4 4 (c - (size - 4))) wx) ∧ RowAt w a4 4 (c - (size - 4)) 1 (((l.take size).drop (size - 4)).map B) := by
        obtain ⟨a4, h2, h3⟩ := cut_mid slB r (size - 4) size (by omega) (by omega)
        rw [show ((size - 4 : Nat) : Int) = (size : Int) - 4 by omega, show size - (size - 4) = 4 by omega] at h2
        rw [show size - (size - 4) = 4 by omega] at h3
        refine ⟨a4, h2, ?_⟩
        rwa [Nat.mul_one, Nat.mul_one, ← List.map_take, ← List.map_drop] at h3
      have rr0 := rr.below hb0
      have r40 := r4.below hb0
      have hcl := closed_rest (l := l) (size := size) p6 (by omega)
      rw [hDD] at hcl HD
      have hbl : D.length = size - 20 := by rw [← hDD, List.length_drop, List.length_take]; omega
      obtain ⟨z, hz⟩ : ∃ z, closedB ((l.take size).drop 16) = z := ⟨_, rfl⟩
      rw [hz] at hcl HD
      have HC := Lib.hid hcl
      have HB := Lib.hid hbl
      have HD2 : Hid (decF l = if z = false then (Fr.none, 0, 62) else (⟨kind, seq, D⟩, size, 0)) := Lib.hid (by rw [HD.out, if_neg (by simp), if_neg (by omega)])
      have w4 : IntKind.i64.wrap ((size : Int) - 4) = (size : Int) - 4 := IntWalk.i64_in _ (by omega)
      have q0 : (0 : Int) ≤ (size : Int) - 4 := by omega
      have hsl := sumN_lt 0 D
      clear e1 p8 hz hDD hcl hbl HD
      go_enter Tryd.func30, Tryd.ntmps30
      go_wp2_with fail
      (with_reducible refine (rpeek_any _ _ _ l _ r0).mono ?_)
      rintro e w1 ⟨rfl, hb1⟩
      rw [HP0.out]
      have rr1 := rr0.below hb1
      have r41 := r40.below hb1
      clear w4
      go_wp2_with fail
      (with_reducible refine (copy_any _ _ _ D _ (by omega) rr1).mono ?_)
      rintro e w2 ⟨a5, c5, rfl, ho2, hb2⟩
      have r42 := r41.below hb2
      have rD := own_rowAt ho2
      have hbx := below_next hb1 hb2
      clear rr1 r41 rr0 r40
      have w4 : IntKind.i64.wrap ((size : Int) - 4) = (size : Int) - 4 := IntWalk.i64_in _ (by omega)
      go_wp2_with fail
      go_region_with (first
        | (go_at_call 55; refine (rsum_any _ _ _ D _ (by exact rowAt_drew rD)).mono ?_; rintro e w3 ⟨rfl, rfl⟩)
        | (go_at_call 54; refine (rfour_any _ _ hsl).mono ?_; rintro e w3 ⟨a6, c6, rfl, ho5, hb5⟩; have hb6 : Below w2.heap.size w2 w3 := ((Still.one w2 1).below _).trans hb5; have r5 := own_rowAt ho5; have r6 := r42.below hb6)
        | (go_at_call 15; refine (same_any _ _ _ ((l.take size).drop (size - 4)) _ _ _ (four (sumN 0 D)) _ r6 r5).mono ?_; rintro e w7 ⟨rfl, hst7⟩; rw [HC.out]; have hb8 := below_still hb6 hst7; clear r5 r6 hst7 ho5 hb5))
      have ho7 := own_below ho2 hb8
      have hby := below_next hbx hb8
      have hsz2 : w.heap.size ≤ w1.heap.size := by have := hb1.size; omega
      cases z with
      | false =>
        have HE : Hid (decF l = (Fr.none, 0, 62)) := Lib.hid (by rw [HD2.out, if_pos rfl])
        have h1 := (hby.block _ hz0).trans h0
        obtain ⟨c0, c1, c2, f0, f1, f2⟩ := laid3 h1
        have s0 := set3_0 (u := .int .i64 0) h1
        have s1 := set3_1 (u := .int .i64 0) s0
        have s2 := set3_2 (u := .slice none 0 0) s1
        obtain ⟨d0, d1, d2, _, _, _⟩ := laid3 s2
        have g1 : ((w7.setCell ⟨w.heap.size, 0, none⟩ (.int .i64 0))).frozen? ⟨w.heap.size, 1, none⟩ = false := free_blk s0
        have g2 : ((w7.setCell ⟨w.heap.size, 0, none⟩ (.int .i64 0)).setCell ⟨w.heap.size, 1, none⟩ (.int .i64 0)).frozen? ⟨w.heap.size, 2, none⟩ = false := free_blk s1
        have hbs := below_set3 (x := .int .i64 0) (y := .int .i64 0) (z := .slice none 0 0) (below_next hb0 hby) (Nat.le_refl _)
        clear s0 s1 s2 h1 h0
        go_wp2_with fail
        refine bodyPost_ret (v := .tuple #[.agg #[.int .i64 0, .int .i64 0, .slice none 0 0], .int .i64 0, .int .i64 62]) (by simp [results, Tryd.results30, go_sem, d0, d1, d2]) rfl ?_
        rw [HE.out]
        exact ⟨none, 0, rfl, World.ownsRow_nil _ _ _ _, hbs⟩
      | true =>
        have HE : Hid (decF l = (⟨kind, seq, D⟩, size, 0)) := Lib.hid (by rw [HD2.out, if_neg (by simp)])
        have h1 := (hby.block _ hz0).trans h0
        obtain ⟨c0, c1, c2, f0, f1, f2⟩ := laid3 h1
        have s0 := set3_0 (u := .int .i64 (kind : Int)) h1
        have s1 := set3_1 (u := .int .i64 (seq : Int)) s0
        have s2 := set3_2 (u := .slice a5 D.length c5) s1
        obtain ⟨d0, d1, d2, _, _, _⟩ := laid3 s2
        have g1 : ((w7.setCell ⟨w.heap.size, 0, none⟩ (.int .i64 (kind : Int)))).frozen? ⟨w.heap.size, 1, none⟩ = false := free_blk s0
        have g2 : ((w7.setCell ⟨w.heap.size, 0, none⟩ (.int .i64 (kind : Int))).setCell ⟨w.heap.size, 1, none⟩ (.int .i64 (seq : Int))).frozen? ⟨w.heap.size, 2, none⟩ = false := free_blk s1
        have hbs := below_set3 (x := .int .i64 (kind : Int)) (y := .int .i64 (seq : Int)) (z := .slice a5 D.length c5) (below_next hb0 hby) (Nat.le_refl _)
        have hos := own_set3 (x := .int .i64 (kind : Int)) (y := .int .i64 (seq : Int)) (z := .slice a5 D.length c5) (b := w.heap.size) ho7 (fun e => by have := (ho7.lt _ e).1; have := hb1.size; omega)
        clear s0 s1 s2 h1 h0
        go_wp2_with fail
        refine bodyPost_ret (v := .tuple #[.agg #[.int .i64 (kind : Int), .int .i64 (seq : Int), .slice a5 D.length c5], .int .i64 (size : Int), .int .i64 0]) (by simp [results, Tryd.results30, go_sem, d0, d1, d2]) rfl ?_
        rw [HE.out]
        exact ⟨a5, c5, rfl, own_mono hos hsz2, hbs⟩
  · have HE : Hid (decF l = (Fr.none, 0, e)) := Lib.hid (by rw [HD.out, if_pos he])
    have heb : ((e : Int) != 0) = true := by rw [bne_iff_ne]; omega
    clear e1 p5 he
    go_enter Tryd.func30, Tryd.ntmps30
    go_wp2_with fail
    (with_reducible refine (rpeek_any _ _ _ l _ r0).mono ?_)
    rintro e' w1 ⟨rfl, hb1⟩
    rw [HP.out]
    have h1 := (hb1.block _ hz0).trans h0
    obtain ⟨c0, c1, c2, f0, f1, f2⟩ := laid3 h1
    have s0 := set3_0 (u := .int .i64 0) h1
    have s1 := set3_1 (u := .int .i64 0) s0
    have s2 := set3_2 (u := .slice none 0 0) s1
    obtain ⟨d0, d1, d2, _, _, _⟩ := laid3 s2
    have g1 : ((w1.setCell ⟨w.heap.size, 0, none⟩ (.int .i64 0))).frozen? ⟨w.heap.size, 1, none⟩ = false := free_blk s0
    have g2 : ((w1.setCell ⟨w.heap.size, 0, none⟩ (.int .i64 0)).setCell ⟨w.heap.size, 1, none⟩ (.int .i64 0)).frozen? ⟨w.heap.size, 2, none⟩ = false := free_blk s1
    have hbs := below_set3 (x := .int .i64 0) (y := .int .i64 0) (z := .slice none 0 0) (below_next hb0 hb1) (Nat.le_refl _)
    clear s0 s1 s2 h1 h0
    go_wp2_with fail
    refine bodyPost_ret (v := .tuple #[.agg #[.int .i64 0, .int .i64 0, .slice none 0 0], .int .i64 0, .int .i64 (e : Int)]) (by simp [results, Tryd.results30, go_sem, d0, d1, d2]) rfl ?_
    rw [HE.out]
    exact ⟨none, 0, rfl, World.ownsRow_nil _ _ _ _, hbs⟩

theorem fr_ne {f g : Fr} (h : f ≠ g) : f.kind ≠ g.kind ∨ (f.kind = g.kind ∧ f.seq ≠ g.seq) ∨ (f.kind = g.kind ∧ f.seq = g.seq ∧ f.body ≠ g.body) := by
  by_cases h1 : f.kind = g.kind
  · by_cases h2 : f.seq = g.seq
    · right; right; exact ⟨h1, h2, fun h3 => h (by cases f; cases g; simp_all)⟩
    · exact .inr (.inl ⟨h1, h2⟩)
  · exact .inl h1
end Go.Proofs.YtffhejaeliphcaaDoor
