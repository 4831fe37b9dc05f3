/-
  The walks of VarintLists, VarintListBack. Conditions: arguments read as their types say; each holds at most 1048576 elements.
-/
import Derived.Test.YthejahoiodoalaaVlaw3
namespace Go.Proofs.Ythejahoiodoalaa
open Go.RowKit
set_option linter.unusedVariables false

set_option maxHeartbeats 800000 in
theorem lists_walk (a : Option Addr) (n c : Nat) (us : List UInt64) (a' : Option Addr) (n' c' : Nat) (l : List UInt8) (most : Int) (w : World)
    (r : RowAt w a n c 1 (us.map U)) (hs : n ≤ 1048576) (r' : RowAt w a' n' c' 1 (l.map B)) (hs' : n' ≤ 1048576) (hm1 : -9223372036854775808 ≤ most) (hm2 : most ≤ 9223372036854775807) :
    Calls Try.prog 10 #[.slice a n c, .slice a' n' c', .int .i64 most] w fun e w' => e = .returned (.bool true) ∧ Below w.heap.size w w' := by
  have e1 : us.length = n := by simpa using r.len
  have e2 : l.length = n' := by simpa using r'.len
  have hl := encAll_len us (by omega)
  rw [e1] at hl
  have H1 := Lib.hid e1; clear e1
  have H2 := Lib.hid e2; clear e2
  go_enter Try.func10, Try.ntmps10
  go_wp2_with fail
  (with_reducible refine (head_any _).mono ?_)
  rintro e w1 ⟨rfl, hb1⟩
  have ho1 := own_lit w1 [] 0 1 22 rfl (by decide)
  have hm := below_next hb1 (below_made w1 (.cells [].toArray 22))
  have hsz := hm.size
  go_wp2_with (at_builtin; refine wpList_app rfl _ _ 41 rfl slU rfl ho1 rfl (r.below hm) (U_one _) (by omega) (by simp) fun a2 c2 w2 hown2 hg2 => ?_)
  have hb2 := hm.grown hg2 hsz (fun k hk => by have := own_block ho1 k hk; have := hb1.size; omega)
  have r2 := own_rowAt hown2
  rw [List.nil_append, Nat.zero_add] at r2
  clear ho1 hm hown2 hg2 hb1 hsz
  (with_reducible refine (rencAll_any _ _ _ us _ (by omega) (r.below hb2)).mono ?_)
  rintro e w3 ⟨a3, c3, rfl, hown3, hb3⟩
  have r3 := own_rowAt hown3
  have r2' := r2.below hb3
  have hb4 := below_next hb2 hb3
  clear hown3 hb2 hb3 r2
  go_wp2_with fail
  (with_reducible refine (encAll_any _ _ _ us _ (by omega) r2').mono ?_)
  rintro e w4 ⟨a4, c4, rfl, hown4, hb5⟩
  have r4 := own_rowAt hown4
  have r3' := r3.below hb5
  have r5 := r2'.below hb5
  have hb6 := below_next hb4 hb5
  clear hown4 hb4 hb5 r2' r3
  go_wp2_with fail
  (with_reducible refine (same_any _ _ _ _ _ _ _ _ _ r4 r3').mono ?_)
  rintro e w5 ⟨rfl, hst⟩
  have r3 := r3'.still hst
  have r2 := r5.still hst
  have hb := below_still hb6 hst
  clear r3' r5 r4 hb6 hst
  rw [beq_self_eq_true]
  go_wp2_with fail
  (with_reducible refine (sameNums_any _ _ _ _ _ _ _ _ _ r2 (r.below hb)).mono ?_)
  rintro e w6 ⟨rfl, hst⟩
  have r4 := r3.still hst
  have hb1 := below_still hb hst
  clear r3 r2 hst hb
  rw [beq_self_eq_true]
  go_wp2_with fail
  (with_reducible refine (copy_any _ _ _ l _ (by omega) (r'.below hb1)).mono ?_)
  rintro e w7 ⟨a5, c5, rfl, hown5, hb2⟩
  have r5 := own_rowAt hown5
  have hb := below_next hb1 hb2
  have r3 := r4.below hb2
  rw [H2.out] at *
  clear hown5 hb1 hb2 r4
  go_wp2_with fail
  (with_reducible refine (rdecAll_any _ _ _ l most _ (by omega) (r'.below hb) hm1 hm2).mono ?_)
  rintro e w8 ⟨a6, c6, rfl, hown6, hb2⟩
  have r6 := own_rowAt hown6
  have r4 := r3.below hb2
  have r7 := r5.below hb2
  have hb1 := below_next hb hb2
  clear hown6 hb hb2 r3 r5
  go_wp2_with fail
  (with_reducible refine (decAll_any _ _ _ l most _ (by omega) r7 hm1 hm2).mono ?_)
  rintro e w9 ⟨a8, c8, rfl, hown8, hb2⟩
  have r8 := own_rowAt hown8
  have r3 := r4.below hb2
  have r5 := r7.below hb2
  have r9 := r6.below hb2
  have hb := below_next hb1 hb2
  clear hown8 hb1 hb2 r4 r7 r6
  generalize decAll l most = D at *
  obtain ⟨x, m, f⟩ := D
  simp only at *
  have b1 : ((m : Int) != (m : Int)) = false := by simp
  have b2 : ((f : Int) != (f : Int)) = false := by simp
  go_wp2_with fail
  (with_reducible refine (sameNums_any _ _ _ _ _ _ _ _ _ r9 r8).mono ?_)
  rintro e w10 ⟨rfl, hst⟩
  have r4 := r3.still hst
  have r6 := r5.still hst
  have hb1 := below_still hb hst
  clear r3 r5 hst hb r8 r9
  rw [beq_self_eq_true]
  go_wp2_with fail
  (with_reducible refine (same_any _ _ _ _ _ _ _ _ _ (r'.below hb1) r6).mono ?_)
  rintro e w11 ⟨rfl, hst⟩
  have r3 := r4.still hst
  have hb := below_still hb1 hst
  clear r4 r6 hst hb1 b1 b2
  rw [beq_self_eq_true]
  go_wp2_with fail
  (with_reducible refine (rdecAll_any _ _ _ (encAll us) most _ (by omega) r3 hm1 hm2).mono ?_)
  rintro e w12 ⟨a6, c6, rfl, hown6, hb2⟩
  have r6 := own_rowAt hown6
  have r4 := r3.below hb2
  have hb1 := below_next hb hb2
  clear hown6 hb hb2 r3
  go_wp2_with fail
  (with_reducible refine (decAll_any _ _ _ (encAll us) most _ (by omega) r4 hm1 hm2).mono ?_)
  rintro e w13 ⟨a8, c8, rfl, hown8, hb2⟩
  have r8 := own_rowAt hown8
  have r9 := r6.below hb2
  have hb := below_next hb1 hb2
  clear hown8 hb1 hb2 r4 r6
  generalize decAll (encAll us) most = D at *
  obtain ⟨x2, m2, f2⟩ := D
  simp only at *
  have b1 : ((m2 : Int) == (m2 : Int)) = true := by simp
  have b2 : ((f2 : Int) == (f2 : Int)) = true := by simp
  go_wp2_with fail
  (with_reducible refine (sameNums_any _ _ _ _ _ _ _ _ _ r9 r8).mono ?_)
  rintro e w14 ⟨rfl, hst⟩
  have hb1 := below_still hb hst
  clear hst hb r8 r9
  rw [beq_self_eq_true]
  go_wp2_with fail
  go_ret
  exact ⟨rfl, hb1⟩

end Go.Proofs.Ythejahoiodoalaa
