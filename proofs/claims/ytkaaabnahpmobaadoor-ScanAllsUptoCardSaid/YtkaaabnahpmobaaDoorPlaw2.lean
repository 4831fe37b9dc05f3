/-
  The walk of ScanAlls. Conditions: the argument reads as bytes, within the statement's own bound; the program's table of nibbles holds what its text lays.
-/
import Derived.Test.YtkaaabnahpmobaaDoorPhead
import Derived.Test.YtkaaabnahpmobaaDoorPrall
namespace Go.Proofs.YtkaaabnahpmobaaDoor
open Go.RowKit
set_option linter.unusedVariables false

/-- A body in memory between two places, of whatever bytes. -/
def XBody (S1 S2 : Nat) (x : It) (W : World) : Prop := ∃ vs, W.ownsRow S1 5 1 (.slice x.a x.q.f.body.length x.c) x.q.f.body.length vs ∧ (∀ v ∈ vs, ∃ i, v = .int .u8 i) ∧ ∀ g, (Value.slice x.a x.q.f.body.length x.c).ownBlock = some g → g < S2
/-- Only bytes between two places have been turned. -/
structure XInv (S1 S2 : Nat) (xs : List It) (W0 W : World) : Prop where
  os : W.os = W0.os
  tape : W.tape = W0.tape
  output : W.output = W0.output
  size : W.heap.size = W0.heap.size
  out : ∀ (k : Nat), (k < S1 ∨ S2 ≤ k) → W.heap[k]? = W0.heap[k]?
  row : ∀ (k : Nat) (cs : Array Value), W0.heap[k]? = some (.cells cs 36 (0, 0)) → W.heap[k]? = some (.cells cs 36 (0, 0))
  bod : ∀ x ∈ xs, XBody S1 S2 x W
theorem XInv.start {S1 S2 : Nat} {xs : List It} {W0 : World} (h : ∀ x ∈ xs, BodyAt S1 x W0 ∧ ∀ g, (Value.slice x.a x.q.f.body.length x.c).ownBlock = some g → g < S2) : XInv S1 S2 xs W0 W0 :=
  ⟨rfl, rfl, rfl, rfl, fun _ _ => rfl, fun _ _ h => h, fun x hx => ⟨_, (h x hx).1, fun v hv => by obtain ⟨z, -, rfl⟩ := List.mem_map.1 hv; exact ⟨_, rfl⟩, (h x hx).2⟩⟩
theorem XInv.step {S1 S2 g n c : Nat} {xs : List It} {W0 W : World} {vs : List Value} (h : XInv S1 S2 xs W0 W) (ho : W.ownsRow S1 5 1 (.slice (some ⟨g, 0, none⟩) n c) n vs) (hg : g < S2) (j : Nat) (i : Int) : XInv S1 S2 xs W0 (W.setCell ⟨g, j, none⟩ (.int .u8 i)) := by
  obtain ⟨hst, hgr⟩ := ho.stored j (.int .u8 i)
  have hb : ∃ cur, W.heap[g]? = some (.cells cur 5 (0, 0)) ∧ S1 ≤ g := by
    rcases ho.2 with ⟨h', _⟩ | ⟨g', cap', cur, h', hb, hg, _⟩
    · simp at h'
    · simp only [Value.slice.injEq, Option.some.injEq, Addr.mk.injEq, and_true, true_and] at h'
      obtain ⟨rfl, rfl⟩ := h'
      exact ⟨cur, hg, hb⟩
  obtain ⟨cur, hcur, hS⟩ := hb
  have other : ∀ k, k ≠ g → (W.setCell ⟨g, j, none⟩ (.int .u8 i)).heap[k]? = W.heap[k]? := fun k hk => heap_setCell_other W ⟨g, j, none⟩ k _ hk
  refine ⟨hgr.os.trans h.os, hgr.tape.trans h.tape, hgr.output.trans h.output, (by simp [h.size]), fun k hk => (other k (by omega)).trans (h.out k hk), fun k cs hk => ?_, fun x hx => ?_⟩
  · have h1 := h.row k cs hk
    refine (other k fun e => ?_).trans h1
    subst e
    rw [hcur] at h1
    simp at h1
  · obtain ⟨us, hu, hu2, hu3⟩ := h.bod x hx
    by_cases hxg : (Value.slice x.a x.q.f.body.length x.c).ownBlock = some g
    · have ha : x.a = some ⟨g, 0, none⟩ := by
        rcases hu.2 with ⟨h', _⟩ | ⟨g', cap', cur', h', _⟩
        · rw [h'] at hxg; simp [Value.ownBlock] at hxg
        · rw [h'] at hxg
          simp only [Value.slice.injEq] at h'
          rw [h'.1]
          simp [Value.ownBlock] at hxg
          rw [hxg]
      unfold XBody
      rw [ha] at hu hu3 ⊢
      refine ⟨_, (hu.stored j (.int .u8 i)).1, fun v hv => ?_, hu3⟩
      rcases List.mem_or_eq_of_mem_set hv with h5 | h5
      · exact hu2 v h5
      · exact ⟨_, h5⟩
    · exact ⟨us, own_on hu fun g' cs hg' _ hw => (other g' fun e => hxg (by rw [← e]; exact hg')).trans hw, hu2, hu3⟩
theorem XInv.below {S1 S2 n : Nat} {xs : List It} {w W0 W : World} (h : XInv S1 S2 xs W0 W) (hn : n ≤ S1) (hb : Below n w W0) : Below n w W :=
  hb.trans ⟨h.os, h.tape, h.output, Nat.le_of_eq h.size.symm, fun k hk => h.out k (.inl (by omega))⟩
theorem XInv.at {S1 S2 lo n c : Nat} {a : Option Addr} {xs : List It} {W0 W : World} (h : XInv S1 S2 xs W0 W) (hr : W0.ownsRow lo 36 5 (.slice a n c) n (xs.flatMap It.cells)) (j : Nat) (hj : j < n) :
    ∃ b off x, a = some ⟨b, off, none⟩ ∧ xs[j]? = some x ∧ W.cell? ⟨b, off + j * 5 + 4, none⟩ = some (.slice x.a x.q.f.body.length x.c) := by
  have h1 := own_rowAt (own_on (W' := W) hr fun g cs _ _ hw => h.row g cs hw)
  obtain ⟨b, off, u, ha, hu, hc⟩ := h1.at (j * 5 + 4) (by omega)
  obtain ⟨i, r', x, h1, h2, h3, h4⟩ := flat_get (k := 5) It.cells (fun _ => rfl) xs _ u hu
  obtain rfl : i = j := by omega
  obtain rfl : r' = 4 := by omega
  simp [It.cells] at h4
  subst h4
  exact ⟨b, off, x, ha, h1, by rw [Nat.add_assoc]; exact hc⟩
/-- The byte at a place of a body. -/
theorem XBody.at {S1 S2 : Nat} {x : It} {W : World} (h : XBody S1 S2 x W) (j : Nat) (hj : j < x.q.f.body.length) : ∃ g i vs, x.a = some ⟨g, 0, none⟩ ∧ g < S2 ∧ W.cell? ⟨g, j, none⟩ = some (.int .u8 i) ∧ W.frozen? ⟨g, j, none⟩ = false ∧ W.ownsRow S1 5 1 (.slice (some ⟨g, 0, none⟩) x.q.f.body.length x.c) x.q.f.body.length vs ∧ x.q.f.body.length ≤ x.c ∧ x.c ≤ maxLen := by
  obtain ⟨vs, h1, h2, h3⟩ := h
  obtain ⟨g, hg⟩ := own_some h1 (by omega)
  rw [hg] at h1 h3
  have hl := h1.1
  have hc := h1.cellAt j (by omega)
  rw [List.getElem?_eq_getElem (by omega)] at hc
  obtain ⟨i, hi⟩ := h2 vs[j] (List.getElem_mem _)
  rw [hi] at hc
  exact ⟨g, i, vs, hg, h3 g (by simp [Value.ownBlock]), hc, h1.frozenAt j, h1, (own_rowAt h1).2.1, (own_rowAt h1).2.2.1⟩

theorem PlsAt.within {lo : Nat} {v : Value} {xs : List It} {W W' : World} (h : PlsAt lo v xs W) (hk : ∀ g, lo ≤ g → g < W.heap.size → W'.heap[g]? = W.heap[g]?) : PlsAt lo v xs W' :=
  ⟨own_on h.1 fun g cs _ hb hw => (hk g hb (lt_of_block hw)).trans hw, fun x hx => own_on (h.2 x hx) fun g cs _ hb hw => (hk g hb (lt_of_block hw)).trans hw⟩

set_option maxRecDepth 8000 in
set_option maxHeartbeats 3200000 in
theorem alls_walk (a : Option Addr) (n c : Nat) (l : List UInt8) (w : World) (r : RowAt w a n c 1 (l.map B)) (hs : n ≤ 1048576) (ht : Tab w) :
    Calls Tryd.prog 3 #[.slice a n c] w fun e w' => e = .returned (.bool true) ∧ Below w.heap.size w w' := by
  have hml : l.length = n := by simpa using r.len
  have HL := Lib.hid hml
  have hn40 : n ≤ 1099511627776 := Nat.le_trans hs (by decide)
  clear hml
  obtain ⟨y, hy⟩ : ∃ y, scanF l = y := ⟨_, rfl⟩
  obtain ⟨P, p, e⟩ := y
  have HS := Lib.hid hy
  clear hy
  go_enter Tryd.func3, Tryd.ntmps3
  go_wp2_with fail
  (with_reducible refine (phead_any _ ht).mono ?_)
  rintro e1 w1 ⟨rfl, hb1⟩
  have r1 := r.below hb1
  have t1 := ht.below hb1
  go_wp2_with fail
  (with_reducible refine (copy_any _ _ _ l _ (by omega) r1).mono ?_)
  rintro e2 w2 ⟨a2, c2, rfl, ho2, hb2⟩
  rw [HL.out] at ho2 ⊢
  have r2 := r1.below hb2
  have t2 := t1.below hb2
  have hc2 := below_next hb1 hb2
  have hw12 := hc2.size
  have hw1 := hb1.size
  have hlt2 : ∀ g, (Value.slice a2 n c2).ownBlock = some g → w.heap.size ≤ g ∧ g < w2.heap.size := fun g hg => ⟨Nat.le_trans hw1 (ho2.lt g hg).1, (ho2.lt g hg).2⟩
  clear r1 t1 hb1
  go_wp2_with fail
  (with_reducible refine (rall_any _ _ _ l _ hn40 r2).mono ?_)
  rintro e3 w3 ⟨zs, a3, c3, hzq, rfl, hpz, hb3⟩
  rw [HS.out] at hzq ⊢
  have ho3 := own_below ho2 hb3
  have q3 := own_rowAt ho3
  have r3 := r2.below hb3
  have t3 := t2.below hb3
  have hc3 := below_next hc2 hb3
  clear ho2 r2 t2 hc2
  go_wp2_with fail
  (with_reducible refine (sall_any _ _ _ l _ hn40 q3 t3).mono ?_)
  rintro e4 w4 ⟨xs, a4, c4, hxq, rfl, hpx, hb4⟩
  rw [HS.out] at hxq ⊢
  have ho4 := own_below ho3 hb4
  have q4 := own_rowAt ho4
  have r4 := r3.below hb4
  have t4 := t3.below hb4
  have hc4 := below_next hc3 hb4
  clear ho3 q3 r3 t3 hc3
  go_wp2_with fail
  (with_reducible refine (sall_any _ _ _ l _ hn40 q4 t4).mono ?_)
  rintro e5 w5 ⟨ys, a5, c5, hyq, rfl, hpy, hb5⟩
  rw [HS.out] at hyq ⊢
  have ho5 := own_below ho4 hb5
  have q5 := own_rowAt ho5
  have r5 := r4.below hb5
  have hc5 := below_next hc4 hb5
  have hZ := Lib.hid hpz
  have hX := Lib.hid hpx
  have hY := Lib.hid hpy
  have kX := (hpx.rd rfl).below hb5
  have kZ := ((hpz.rd rfl).below hb4).below hb5
  have HE : Hid (xs.map It.q == zs.map It.q) := Lib.hid (by rw [hxq, hzq]; exact beq_self_eq_true _)
  have HF : Hid (ys.map It.q == zs.map It.q) := Lib.hid (by rw [hyq, hzq]; exact beq_self_eq_true _)
  have e0 : ((p : Int) != (p : Int)) = false := by simp
  have e00 : ((e : Int) != (e : Int)) = false := by simp
  clear ho4 q4 r4 t4 hc4 hpz hpx hpy hxq hyq hzq
  go_wp2_with fail
  (with_reducible refine (psame_any _ _ _ xs _ _ _ zs _ kX kZ).mono ?_)
  rintro e6 w6 ⟨rfl, hb6⟩
  rw [HE.out]
  have ho6 := own_below ho5 hb6
  have q6 := q5.below hb6
  have r6 := r5.below hb6
  have hc6 := below_next hc5 hb6
  clear ho5 q5 r5 hc5 kX kZ
  go_wp2_with fail
  (with_reducible refine (same_any _ _ _ l _ _ _ l _ q6 r6).mono ?_)
  rintro e7 w7 ⟨rfl, hst7⟩
  rw [beq_self_eq_true]
  have ho7 := own_still ho6 hst7
  have hc7 := below_still hc6 hst7
  have hb47 : Below w4.heap.size w4 w7 := (hb5.trans (hb6.mono hb5.size)).trans ((below_still (Below.refl _ _) hst7).mono (Nat.le_trans hb5.size hb6.size))
  have hb57 : Below w5.heap.size w5 w7 := hb6.trans ((below_still (Below.refl _ _) hst7).mono hb6.size)
  have hb37 : Below w3.heap.size w3 w7 := hb4.trans (hb47.mono hb4.size)
  have hrow7 := own_below hX.out.1 hb47
  have hz2 := hb2.size
  have hz3 := hb3.size
  have hz4 := hb4.size
  have hz5 := hb5.size
  have hc3s := hc7.size
  have hI0 : XInv w3.heap.size w4.heap.size xs w7 w7 := XInv.start fun x hx => ⟨own_below (hX.out.2 x hx) hb47, fun g hg => ((hX.out.2 x hx).lt g hg).2⟩
  obtain ⟨nx, hnx⟩ : ∃ nx, xs.length = nx := ⟨_, rfl⟩
  rw [hnx] at hrow7 ⊢
  have HROW := Lib.hid hrow7
  have m1 := (own_rowAt hrow7).2.2.1
  have m2 := (own_rowAt hrow7).2.1
  unfold maxLen at m1
  clear ho6 q6 r6 hc6 hb6 hst7 hrow7 hnx
  go_wp2_with fail
  go_loopw [60] (fun iv wr => ∃ k : Nat, iv = .int .i64 (k : Int) ∧ k ≤ nx ∧ XInv w3.heap.size w4.heap.size xs w7 wr) (fun iv _ => nx - (intOf iv).toNat)
  case atStart => exact ⟨0, rfl, Nat.zero_le _, hI0⟩
  case round =>
    clear hI0
    obtain ⟨k, rfl, hk, hI⟩ := hrel
    by_cases hlt : k < nx
    · obtain ⟨b, off, x, rfl, hxk, p4⟩ := hI.at HROW.out k hlt
      obtain ⟨m, hm⟩ : ∃ m, x.q.f.body.length = m := ⟨_, rfl⟩
      rw [hm] at p4
      have HM := Lib.hid hm
      have HXK := Lib.hid hxk
      clear hm hxk
      go_wp2_with fail
      go_loopw [70] (fun iv wr2 => ∃ j : Nat, iv = .int .i64 (j : Int) ∧ j ≤ m ∧ XInv w3.heap.size w4.heap.size xs w7 wr2) (fun iv _ => m - (intOf iv).toNat)
      case atStart => exact ⟨0, rfl, Nat.zero_le _, hI⟩
      case round =>
        clear hI p4
        obtain ⟨j, rfl, hj, hJ⟩ := hrel
        by_cases hjl : j < m
        · have hJx := hJ.bod x (List.mem_of_getElem? HXK.out)
          obtain ⟨g, i, vs, hxa, hg, hc, hf, hrow, u1, u2⟩ := hJx.at j (by rw [HM.out]; exact hjl)
          have hJ2 := hJ.step hrow hg j (bits .xor .u8 i 255)
          obtain ⟨b', off', x', hxx, hxk', p4⟩ := hJ.at HROW.out k hlt
          cases hxx
          obtain rfl := Option.some.inj (HXK.out.symm.trans hxk')
          rw [hxa, HM.out] at p4
          rw [HM.out] at u1
          unfold maxLen at u2
          clear hJx hrow hxa hxk' hg
          go_wp2_with fail
          go_roundw
          case rel => exact ⟨j + 1, by go_num, by omega, hJ2⟩
          case measure => simp [intOf]; omega
        · obtain rfl : j = m := by omega
          go_wp2_with fail
          go_roundw
          case rel => exact ⟨k + 1, by go_num, by omega, hJ⟩
          case measure => simp [intOf]; omega
    · obtain rfl : k = nx := by omega
      have hbW := hI.below (show w.heap.size ≤ w3.heap.size by omega) hc7
      have ho8 : wr.ownsRow w1.heap.size 5 1 (.slice a2 n c2) n (l.map B) := own_on ho7 fun g cs hg _ hw => (hI.out g (.inl (Nat.lt_of_lt_of_le (hlt2 g hg).2 hz3))).trans hw
      obtain ⟨wm, hwm⟩ : ∃ wm, wm = wr := ⟨_, rfl⟩
      have hI8 : XInv w3.heap.size w4.heap.size xs w7 wm := by rw [hwm]; exact hI
      have hbWm : Below w.heap.size w wm := by rw [hwm]; exact hbW
      have hg8 : wm.grownBy wr (Value.slice a2 n c2).ownBlock := by rw [hwm]; exact grownBy_refl _ _
      clear hI hbW hwm ho7 hc7
      go_wp2_with fail
      go_loopw [88] (fun iv wr2 => ∃ (j : Nat) (vs : List Value), iv = .int .i64 (j : Int) ∧ j ≤ n ∧ wr2.ownsRow w1.heap.size 5 1 (.slice a2 n c2) n vs ∧ wm.grownBy wr2 (Value.slice a2 n c2).ownBlock) (fun iv _ => n - (intOf iv).toNat)
      case atStart => exact ⟨0, _, rfl, Nat.zero_le _, ho8, hg8⟩
      case round =>
        clear ho8 hg8
        obtain ⟨j, vs, rfl, hj, oj, hg⟩ := hrel
        by_cases hjl : j < n
        · obtain ⟨g, rfl⟩ := own_some oj (by omega)
          obtain ⟨⟨v0, _, hc0⟩, hf0, hst⟩ := own_cell oj j hjl
          obtain ⟨hA1, hG1⟩ := hst (.int .u8 238)
          have hG2 := grownBy_trans hg hG1
          have u1 := (own_rowAt oj).2.1
          have u2 := (own_rowAt oj).2.2.1
          unfold maxLen at u2
          clear hst hg hG1
          go_wp2_with fail
          go_roundw
          case rel => exact ⟨j + 1, _, by go_num, by omega, hA1, hG2⟩
          case measure => simp [intOf]; omega
        · obtain rfl : j = n := by omega
          have hbL := hbWm.grown hg hbWm.size (fun k hk => (hlt2 k hk).1)
          have hq9 : PlsRd a5 ys.length c5 ys wr := PlsAt.rd (hY.out.within fun k h1 h2 => ((hg.block k (by rw [hI8.size]; exact Nat.lt_of_lt_of_le h2 hb57.size) (fun e => by have := (hlt2 k e.symm).2; omega)).trans (hI8.out k (.inr h1))).trans (hb57.block k h2)) rfl
          have hz9 : PlsRd a3 zs.length c3 zs wr := PlsAt.rd (hZ.out.within fun k h1 h2 => ((hg.block k (by rw [hI8.size]; exact Nat.lt_of_lt_of_le h2 hb37.size) (fun e => by have := (hlt2 k e.symm).2; omega)).trans (hI8.out k (.inl h2))).trans (hb37.block k h2)) rfl
          go_wp2_with fail
          (with_reducible refine (psame_any _ _ _ ys _ _ _ zs _ hq9 hz9).mono ?_)
          rintro e9 w9 ⟨rfl, hb9⟩
          rw [HF.out]
          have hb10 := below_next hbL hb9
          go_wp2_with fail
          go_ret
          exact ⟨rfl, hb10⟩
end Go.Proofs.YtkaaabnahpmobaaDoor
