/-
  The walk of VarintListBack. Conditions: arguments read as their types say; each holds at most 1048576 elements.
-/
import Derived.Test.YthejahoiodoalaaVlaw4
namespace Go.Proofs.Ythejahoiodoalaa
open Go.RowKit
set_option linter.unusedVariables false

set_option maxHeartbeats 800000 in
theorem listBack_walk (a : Option Addr) (n c : Nat) (us : List UInt64) (a' : Option Addr) (n' c' : Nat) (l : List UInt8) (w : World)
    (r : RowAt w a n c 1 (us.map U)) (hs : n ≤ 1048576) (r' : RowAt w a' n' c' 1 (l.map B)) (hs' : n' ≤ 1048576) :
    Calls Try.prog 11 #[.slice a n c, .slice a' n' c'] w fun e w' => e = .returned (.bool true) ∧ Below w.heap.size w w' := by
  have e1 : us.length = n := by simpa using r.len
  have e2 : l.length = n' := by simpa using r'.len
  have hl := encAll_len us (by omega)
  rw [e1] at hl
  have HD : Hid (decAll (encAll us ++ l) (n : Int) = (us, (encAll us).length, 0)) := Lib.hid (by rw [← e1]; exact decAll_encAll us l (by omega))
  have HF : Hid (0 < n → decAll (encAll us) ((n : Int) - 1) = ([], 0, 24)) := Lib.hid (by rw [← e1]; exact fun h => decAll_few us h (by omega))
  have H1 := Lib.hid e1; clear e1
  have H2 := Lib.hid e2; clear e2
  obtain ⟨m, hm⟩ : ∃ m, (encAll us).length = m := ⟨_, rfl⟩
  rw [hm] at hl HD
  have HM := Lib.hid hm; clear hm
  by_cases hn : 0 < n
  all_goals
    go_enter Try.func11, Try.ntmps11
    go_wp2_with fail
    (with_reducible refine (head_any _).mono ?_)
    rintro e w1 ⟨rfl, hb1⟩
    have ho1 := own_lit w1 [] 0 1 22 rfl (by decide)
    have hm := below_next hb1 (below_made w1 (.cells [].toArray 22))
    have hsz := hm.size
    go_wp2_with (at_builtin; refine wpList_app rfl _ _ 41 rfl slU rfl ho1 rfl (r.below hm) (U_one _) (by omega) (by simp) fun a2 c2 w2 hown2 hg2 => ?_)
    have hb2 := hm.grown hg2 hsz (fun k hk => by have := own_block ho1 k hk; have := hb1.size; omega)
    have r2 := own_rowAt hown2
    rw [List.nil_append, Nat.zero_add] at r2
    clear ho1 hm hown2 hg2 hb1 hsz
    (with_reducible refine (encAll_any _ _ _ us _ (by have := HM.out; omega) r2).mono ?_)
    rintro e w3 ⟨a3, c3, rfl, hown3, hb3⟩
    rw [HM.out] at hown3 ⊢
    have r3 := own_rowAt hown3
    have hb4 := below_next hb2 hb3
    clear hb2 hb3 r2
    go_wp2_with fail
    (with_reducible refine (copy_any _ _ _ (encAll us) _ (by omega) r3).mono ?_)
    rintro e w4 ⟨a4, c4, rfl, hown4, hb5⟩
    have hb := below_next hb4 hb5
    have r4 := r3.below hb5
    have hsz := hb.size
    have hsz2 := hb5.size
    have hsz3 := hb4.size
    rw [HM.out] at hown4 ⊢
    go_wp2_with (at_builtin; refine wpList_app rfl _ _ 29 rfl slB rfl hown4 rfl (r'.below hb) (B_one _) (by omega) (by omega) fun a5 c5 w5 hown5 hg5 => ?_)
    have r5 := own_rowAt hown5
    rw [← List.map_append] at r5
    have hb6 := hb.grown hg5 hsz (fun k hk => by have := own_block hown4 k hk; omega)
    have r6 := own_rowAt (own_apart hown3 hb5 hown4 (Nat.le_refl _) hg5)
    clear hown3 hown4 hown5 hb hb4 hb5 hg5 hsz hsz2 hsz3 r3 r4
    (with_reducible refine (decAll_any _ _ _ (encAll us ++ l) (n : Int) _ (by omega) r5 (by omega) (by omega)).mono ?_)
    rintro e w6 ⟨a7, c7, rfl, hown7, hb7⟩
    have r7 := own_rowAt hown7
    have hb8 := below_next hb6 hb7
    have r8 := r6.below hb7
    rw [HD.out] at r7 ⊢
    have hus : us.length = n := H1.out
    rw [hus] at r7 ⊢
    clear hown7 hb7 hb6 r5 r6 hus
    have b1 : ((m : Int) != (m : Int)) = false := by simp
    go_wp2_with fail
    (with_reducible refine (sameNums_any _ _ _ us _ _ _ us _ r7 (r.below hb8)).mono ?_)
    rintro e w7 ⟨rfl, hst⟩
    have hb := below_still hb8 hst
    have r9 := r8.still hst
    rw [beq_self_eq_true]
    clear hst hb8 r8 r7 b1
    go_wp2_with fail
  · have HF' := Lib.hid (HF.out hn)
    (with_reducible refine (decAll_any _ _ _ (encAll us) ((n : Int) - 1) _ (by omega) r9 (by omega) (by omega)).mono ?_)
    rintro e w8 ⟨a8, c8, rfl, hown8, hb8⟩
    have hb9 := below_next hb hb8
    rw [HF'.out] at *
    clear hown8 hb8 hb
    go_wp2_with fail
    go_ret
    exact ⟨rfl, hb9⟩
  · go_ret
    exact ⟨rfl, hb⟩
end Go.Proofs.Ythejahoiodoalaa
