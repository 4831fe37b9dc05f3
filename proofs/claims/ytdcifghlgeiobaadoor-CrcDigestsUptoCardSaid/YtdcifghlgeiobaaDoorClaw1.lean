/-
  The walks of CrcSums and CrcPieces. Conditions: arguments read as their types say, within the form's own reach; the table of nibbles holds what the text lays.
-/
import Derived.Test.YtdcifghlgeiobaaDoorCwalk
namespace Go.Proofs.YtdcifghlgeiobaaDoor
open Go.RowKit
set_option linter.unusedVariables false

set_option maxHeartbeats 400000 in
theorem sums_walk (a : Option Addr) (n c : Nat) (l : List UInt8) (s : Int) (w : World) (r : RowAt w a n c 1 (l.map B)) (hs : n * 1 ≤ 140737488351232) (h0 : 0 ≤ s) (h1 : s < 4294967296) (ht : Tab w) :
    Calls Tryd.prog 3 #[.slice a n c, .int .u32 s] w fun e w' => e = .returned (.bool true) ∧ Below w.heap.size w w' := by
  have e1 : l.length = n := by simpa using r.len
  have H1 := Lib.hid e1; clear e1
  go_enter Tryd.func3, Tryd.ntmps3
  go_wp2_with fail
  (with_reducible refine (head_any _ ht).mono ?_)
  rintro e w1 ⟨rfl, hb1⟩
  go_wp2_with fail
  (with_reducible refine (copy_any _ _ _ l _ (by omega) (r.below hb1)).mono ?_)
  rintro e w2 ⟨a2, c2, rfl, hown, hb2⟩
  have hb := below_next hb1 hb2
  have r1 := r.below hb
  have r2 := own_rowAt hown
  have ht2 := ht.below hb
  rw [H1.out] at r2 ⊢
  clear hown hb1 hb2
  go_wp2_with fail
  (with_reducible refine (sum_any _ _ _ l _ r2 ht2).mono ?_)
  rintro e w3 ⟨rfl, rfl⟩
  go_wp2_with fail
  (with_reducible refine (rsum_any _ _ _ l _ r1).mono ?_)
  rintro e w3 ⟨rfl, rfl⟩
  have hbb : (((sumN 0 l : Nat) : Int) == ((sumN 0 l : Nat) : Int)) = true := by simp
  go_wp2_with fail
  (with_reducible refine (update_any s _ _ _ l _ h0 h1 r2 ht2).mono ?_)
  rintro e w3 ⟨rfl, rfl⟩
  go_wp2_with fail
  (with_reducible refine (rupdate_any s _ _ _ l _ h0 h1 r1).mono ?_)
  rintro e w3 ⟨rfl, rfl⟩
  have hbc : (((sumN s.toNat l : Nat) : Int) == ((sumN s.toNat l : Nat) : Int)) = true := by simp
  go_wp2_with fail
  (with_reducible refine (same_any _ _ _ l _ _ _ l _ r1 r2).mono ?_)
  rintro e w3 ⟨rfl, hst⟩
  rw [beq_self_eq_true]
  go_wp2_with fail
  go_ret
  exact ⟨rfl, below_still hb hst⟩

set_option maxHeartbeats 800000 in
theorem pieces_walk (a : Option Addr) (n c : Nat) (l : List UInt8) (k : Int) (w : World) (r : RowAt w a n c 1 (l.map B)) (hs : n * 1 ≤ 140737488351232) (h0 : -9223372036854775808 ≤ k) (h1 : k ≤ 9223372036854775807) (ht : Tab w) :
    Calls Tryd.prog 4 #[.slice a n c, .int .i64 k] w fun e w' => e = .returned (.bool true) ∧ Below w.heap.size w w' := by
  have e1 : l.length = n := by simpa using r.len
  have H1 := Lib.hid e1; clear e1
  by_cases hk : 0 ≤ k ∧ k ≤ n
  · obtain ⟨k0, k1⟩ := hk
    obtain ⟨m, rfl⟩ := Int.eq_ofNat_of_zero_le k0
    have hmn : m ≤ n := by omega
    have hcut := fun wx => run_cut0 (a := a) (n := n) (cap := c) slB wx m (Nat.le_trans hmn r.2.1)
    obtain ⟨a2, hcut2, r2⟩ := cut_from slB r m hmn
    rw [Nat.mul_one, ← List.map_drop] at r2
    have HP : Hid (sumN (sumN 0 (l.take m)) (l.drop m) = sumN 0 l) := Lib.hid (by rw [sumN_append 0 _ _ (by decide), List.take_append_drop])
    go_enter Tryd.func4, Tryd.ntmps4
    go_wp2_with fail
    (with_reducible refine (head_any _ ht).mono ?_)
    rintro e w1 ⟨rfl, hb1⟩
    have ht1 := ht.below hb1
    have r1 := r.below hb1
    have r3 := r2.below hb1
    have hmc : m ≤ c := Nat.le_trans hmn r.2.1
    go_wp2_with fail
    go_region_with (first
      | (go_at_call_of 13 (Value.slice a m c); refine (sum_any _ _ _ (l.take m) _ (by exact rowAt_drew (rowB_upto r1 hmn)) (by exact ht1.still (Still.one w1 1))).mono ?_; rintro e w3 ⟨rfl, rfl⟩)
      | (go_at_call_of 13 (Value.slice a n c); refine (sum_any _ _ _ l _ (by exact rowAt_drew r1) (by exact ht1.still (Still.one w1 1))).mono ?_; rintro e w3 ⟨rfl, rfl⟩)
      | (go_at_call 15; refine (update_any _ _ _ _ (l.drop m) _ (by omega) (by have := sumN_lt 0 (l.take m); omega) (by exact rowAt_drew r3) (by exact ht1.still (Still.one w1 1))).mono ?_; rintro e w3 ⟨rfl, rfl⟩))
    all_goals
      go_wp2_with fail
      go_ret
      exact ⟨ret_bool (by rw [HP.out]; simp), below_still hb1 (Still.one w1 1)⟩
  · have hk2 : k < 0 ∨ ¬ k < 0 ∧ (n : Int) < k := by omega
    have HP : Hid (((sumN (((sumN 0 l : Nat) : Int).toNat) [] : Nat) : Int) = ((sumN 0 l : Nat) : Int)) := Lib.hid (by rw [Int.toNat_natCast, sumN_append 0 _ _ (by decide), List.append_nil])
    have hsl := sumN_lt 0 l
    have hbb : (((sumN 0 l : Nat) : Int) == ((sumN 0 l : Nat) : Int)) = true := by simp
    clear hk
    rcases hk2 with k1 | ⟨k1, k2⟩
    all_goals
      go_enter Tryd.func4, Tryd.ntmps4
      go_wp2_with fail
      (with_reducible refine (head_any _ ht).mono ?_)
      rintro e w1 ⟨rfl, hb1⟩
      have ht1 := ht.below hb1
      have r1 := r.below hb1
      go_wp2_with fail
      (with_reducible refine (sum_any _ _ _ l _ r1 ht1).mono ?_)
      rintro e w3 ⟨rfl, rfl⟩
      go_wp2_with fail
      (with_reducible refine (update_any _ _ _ _ [] _ (by omega) (by omega) (RowAt.nil _ 1) ht1).mono ?_)
      rintro e w3 ⟨rfl, rfl⟩
      rw [HP.out]
      go_wp2_with fail
      (with_reducible refine (sum_any _ _ _ l _ r1 ht1).mono ?_)
      rintro e w3 ⟨rfl, rfl⟩
      go_wp2_with fail
      go_ret
      exact ⟨rfl, hb1⟩
end Go.Proofs.YtdcifghlgeiobaaDoor
