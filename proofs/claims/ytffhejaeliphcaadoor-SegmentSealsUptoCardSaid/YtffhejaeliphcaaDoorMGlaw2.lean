/-
  The walk of SegmentSeals. Conditions: the first argument reads as bytes, within the statement's own bound; the program's table of nibbles holds what its text lays.
-/
import Derived.Test.YtffhejaeliphcaaDoorMGfooter
import Derived.Test.YtffhejaeliphcaaDoorMGrfoot
import Derived.Test.YtffhejaeliphcaaDoorMHh
namespace Go.Proofs.YtffhejaeliphcaaDoor
open Go.RowKit
set_option linter.unusedVariables false

set_option maxRecDepth 8000 in
set_option maxHeartbeats 1600000 in
theorem gseals_walk (a : Option Addr) (n c : Nat) (l : List UInt8) (t : Int) (w : World) (r : RowAt w a n c 1 (l.map B)) (hs : n ≤ 1048576) (t0 : -9223372036854775808 ≤ t) (t1 : t ≤ 9223372036854775807) (ht : Tab w) :
    Calls Tryd.prog 5 #[.slice a n c, .int .i64 t] w fun e w' => e = .returned (.bool true) ∧ Below w.heap.size w w' := by
  have hml : l.length = n := by simpa using r.len
  have HL := Lib.hid hml
  have hn40 : n ≤ 1099511627776 := Nat.le_trans hs (by decide)
  clear hml
  obtain ⟨y, hy⟩ : ∃ y, footF l t = y := ⟨_, rfl⟩
  obtain ⟨Y, ey⟩ := y
  have HY := Lib.hid hy
  have HT0 := Lib.hid t0
  have HT1 := Lib.hid t1
  clear hy t0 t1
  go_enter Tryd.func5, Tryd.ntmps5
  go_wp2_with fail
  (with_reducible refine (hhead_any _ ht).mono ?_)
  rintro e w1 ⟨rfl, hb1⟩
  have r1 := r.below hb1
  have tt1 := ht.below hb1
  have hw1 := hb1.size
  go_wp2_with fail
  (with_reducible refine (rfooter_any a n c l t _ hn40 r1 HT0.out HT1.out).mono ?_)
  rintro e w2 ⟨aw, cw, rfl, how, hb2⟩
  rw [HY.out] at how ⊢
  simp only at how ⊢
  have r2 := r1.below hb2
  have tt2 := tt1.below hb2
  have hc2 := below_next hb1 hb2
  have qw := own_rowAt how
  have hwlt := how.lt
  clear r1 tt1 hb1 how
  go_wp2_with fail
  (with_reducible refine (copy_any _ _ _ l _ (by omega) r2).mono ?_)
  rintro e w3 ⟨a3, c3, rfl, ho3, hb3⟩
  rw [HL.out] at ho3 ⊢
  have q3 := own_rowAt ho3
  have r3 := r2.below hb3
  have tt3 := tt2.below hb3
  have hc3 := below_next hc2 hb3
  have qw3 := qw.below hb3
  have hs2 := hb2.size
  have hs3 := hb3.size
  clear r2 tt2 ho3 qw hc2
  go_wp2_with fail
  (with_reducible refine (gfooter_any a3 n c3 l t _ hn40 q3 HT0.out HT1.out tt3).mono ?_)
  rintro e w4 ⟨a4, c4, rfl, ho4, hb4⟩
  rw [HY.out] at ho4 ⊢
  simp only at ho4 ⊢
  have q4 := q3.below hb4
  have r4 := r3.below hb4
  have tt4 := tt3.below hb4
  have hc4 := below_next hc3 hb4
  have qw4 := qw3.below hb4
  have hs4 := hb4.size
  clear r3 tt3 q3 qw3 hc3
  go_wp2_with fail
  (with_reducible refine (gfooter_any a3 n c3 l t _ hn40 q4 HT0.out HT1.out tt4).mono ?_)
  rintro e w5 ⟨a5, c5, rfl, ho5, hb5⟩
  rw [HY.out] at ho5 ⊢
  simp only at ho5 ⊢
  have q5 := q4.below hb5
  have r5 := r4.below hb5
  have hc5 := below_next hc4 hb5
  have qw5 := qw4.below hb5
  have ho45 := own_below ho4 hb5
  have q45 := own_rowAt ho45
  have q55 := own_rowAt ho5
  have hlt4 := ho4.lt
  have hlt5 := ho5.lt
  have e0 : ((ey : Int) != (ey : Int)) = false := by simp
  clear r4 tt4 q4 qw4 hc4 ho4
  go_wp2_with fail
  (with_reducible refine (same_any _ _ _ Y _ _ _ Y _ q45 qw5).mono ?_)
  rintro e w6 ⟨rfl, hst6⟩
  rw [beq_self_eq_true]
  have q6 := q5.still hst6
  have r6 := r5.still hst6
  have hc6 := below_still hc5 hst6
  have qw6 := qw5.still hst6
  have ho46 := own_still ho45 hst6
  have q56 := q55.still hst6
  have hsz6 : w5.heap.size = w6.heap.size := by rw [hst6.heap]
  clear q5 r5 hc5 qw5 ho45 q45 q55 ho5
  go_wp2_with fail
  (with_reducible refine (same_any _ _ _ l _ _ _ l _ q6 r6).mono ?_)
  rintro e w7 ⟨rfl, hst7⟩
  rw [beq_self_eq_true]
  have hc7 := below_still hc6 hst7
  have qw7 := qw6.still hst7
  have ho47 := own_still ho46 hst7
  have q57 := q56.still hst7
  have hsz7 : w6.heap.size = w7.heap.size := by rw [hst7.heap]
  obtain ⟨m, hm⟩ : ∃ m, Y.length = m := ⟨_, rfl⟩
  rw [hm] at ho47 hlt4 hwlt hlt5 qw7 q57 ⊢
  have hg0 := grownBy_refl w7 (Value.slice a4 m c4).ownBlock
  clear q6 r6 hc6 qw6 ho46 q56 hst6 hst7 e0 hm HY
  have hv0 : ∀ v ∈ Y.map B, ∃ i, v = Value.int .u8 i := fun v hv => by obtain ⟨z, -, rfl⟩ := List.mem_map.1 hv; exact ⟨_, rfl⟩
  have hown0 : ∃ vs, w7.ownsRow w3.heap.size 5 1 (.slice a4 m c4) m vs ∧ ∀ v ∈ vs, ∃ i, v = Value.int .u8 i := ⟨_, ho47, hv0⟩
  clear ho47 hv0
  go_wp2_with fail
  go_loopw [52] (fun iv wr => ∃ (j : Nat), iv = .int .i64 (j : Int) ∧ j ≤ m ∧ (∃ vs, wr.ownsRow w3.heap.size 5 1 (.slice a4 m c4) m vs ∧ ∀ v ∈ vs, ∃ i, v = Value.int .u8 i) ∧ w7.grownBy wr (Value.slice a4 m c4).ownBlock) (fun iv _ => m - (intOf iv).toNat)
  case atStart => exact ⟨0, rfl, Nat.zero_le _, hown0, hg0⟩
  case round =>
    clear hown0 hg0
    obtain ⟨j, rfl, hj, ⟨vs, oj, hvs⟩, hg⟩ := hrel
    by_cases hjl : j < m
    · obtain ⟨g, rfl⟩ := own_some oj (by omega)
      obtain ⟨⟨u, hu, hc0⟩, hf0, hst⟩ := own_cell oj j hjl
      obtain ⟨i, rfl⟩ := hvs u (List.mem_of_getElem? hu)
      obtain ⟨hA1, hG1⟩ := hst (.int .u8 (bits .xor .u8 i 255))
      have hG2 := grownBy_trans hg hG1
      have hvs2 : ∀ v ∈ vs.set j (.int .u8 (bits .xor .u8 i 255)), ∃ i, v = Value.int .u8 i := fun v hv => by
        rcases List.mem_or_eq_of_mem_set hv with h5 | h5
        · exact hvs v h5
        · exact ⟨_, h5⟩
      have u1 := (own_rowAt oj).2.1
      have u2 := (own_rowAt oj).2.2.1
      unfold maxLen at u2
      have HV := Lib.hid hvs2
      have HA := Lib.hid hA1
      have HGG := Lib.hid hG2
      clear hst hg hG1 hvs2 hA1 hG2 hvs hu
      go_wp2_with fail
      go_roundw
      case rel => exact ⟨j + 1, by go_num, by omega, ⟨_, HA.out, HV.out⟩, HGG.out⟩
      case measure => simp [intOf]; omega
    · have hbL := hc7.grown hg hc7.size (fun k hk => by have := (hlt4 k hk).1; omega)
      have qd : RowAt wr a5 m c5 1 (Y.map B) := q57.grown hg fun b off ha e => by
        subst ha
        have h1 := (hlt5 b (by simp [Value.ownBlock])).1
        have h2 := (hlt4 b e.symm).2
        omega
      have qw9 : RowAt wr aw m cw 1 (Y.map B) := qw7.grown hg fun b off ha e => by
        subst ha
        have h1 := (hwlt b (by simp [Value.ownBlock])).2
        have h2 := (hlt4 b e.symm).1
        omega
      go_wp2_with fail
      (with_reducible refine (same_any _ _ _ Y _ _ _ Y _ qd qw9).mono ?_)
      rintro e w9 ⟨rfl, hst9⟩
      rw [beq_self_eq_true]
      have hb10 := below_still hbL hst9
      go_wp2_with fail
      go_ret
      exact ⟨rfl, hb10⟩
end Go.Proofs.YtffhejaeliphcaaDoor
