/-
  The walk of ScanRuns. Conditions: the first argument reads as bytes, within the statement's own bound; the program's table of nibbles holds what its text lays.
-/
import Derived.Test.YtkaaabnahpmobaaDoorPhead
import Derived.Test.YtkaaabnahpmobaaDoorPrrun
namespace Go.Proofs.YtkaaabnahpmobaaDoor
open Go.RowKit
set_option linter.unusedVariables false

set_option maxHeartbeats 1600000 in
theorem runs_walk (a : Option Addr) (n c : Nat) (l : List UInt8) (p first most : Int) (w : World) (r : RowAt w a n c 1 (l.map B)) (hs : n ≤ 1048576)
    (p0 : -9223372036854775808 ≤ p) (p1 : p ≤ 9223372036854775807) (f0 : -9223372036854775808 ≤ first) (f1 : first ≤ 9223372036854775807) (m0 : -9223372036854775808 ≤ most) (m1 : most ≤ 9223372036854775807) (ht : Tab w) :
    Calls Tryd.prog 5 #[.slice a n c, .int .i64 p, .int .i64 first, .int .i64 most] w fun e w' => e = .returned (.bool true) ∧ Below w.heap.size w w' := by
  have hml : l.length = n := by simpa using r.len
  have HL := Lib.hid hml
  have hn40 : n ≤ 1099511627776 := Nat.le_trans hs (by decide)
  clear hml p0 p1 f0 f1 m0 m1
  go_enter Tryd.func5, Tryd.ntmps5
  go_wp2_with fail
  (with_reducible refine (phead_any _ ht).mono ?_)
  rintro e w1 ⟨rfl, hb1⟩
  have r1 := r.below hb1
  have t1 := ht.below hb1
  go_wp2_with fail
  (with_reducible refine (rrun_any _ _ _ l p first most _ hn40 r1).mono ?_)
  rintro e w2 ⟨xs, a2, c2, hxq, rfl, hps, hb2⟩
  have r2 := r1.below hb2
  have t2 := t1.below hb2
  have hb3 := below_next hb1 hb2
  have q2 := hps.rd rfl
  clear hps hb1 hb2 r1 t1
  go_wp2_with fail
  (with_reducible refine (copy_any _ _ _ l _ (by omega) r2).mono ?_)
  rintro e w3 ⟨a3, c3, rfl, ho3, hb4⟩
  rw [HL.out] at ho3 ⊢
  have r3 := own_rowAt ho3
  have t3 := t2.below hb4
  have hb5 := below_next hb3 hb4
  have q3 := q2.below hb4
  clear ho3 hb3 hb4 r2 t2 q2
  go_wp2_with fail
  (with_reducible refine (srun_any _ _ _ l p first most _ hn40 r3 t3).mono ?_)
  rintro e w4 ⟨ys, a4, c4, hyq, rfl, hqs, hb6⟩
  have q4 := hqs.rd rfl
  have q5 := q3.below hb6
  have hb7 := below_next hb5 hb6
  have HE : Hid (ys.map It.q == xs.map It.q) := Lib.hid (by rw [hxq, hyq]; exact beq_self_eq_true _)
  clear hqs hb5 hb6 r3 t3 q3 hxq hyq
  go_wp2_with fail
  (with_reducible refine (psame_any _ _ _ ys _ _ _ xs _ q4 q5).mono ?_)
  rintro e w5 ⟨rfl, hb8⟩
  rw [HE.out]
  have hb9 := below_next hb7 hb8
  go_wp2_with fail
  go_ret
  exact ⟨rfl, hb9⟩
end Go.Proofs.YtkaaabnahpmobaaDoor
