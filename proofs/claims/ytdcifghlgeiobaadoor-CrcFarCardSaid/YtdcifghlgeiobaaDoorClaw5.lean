/-
  The walks of CrcCombines and CrcFar. Conditions: arguments read as their types say, within the form's own reach; the table of nibbles holds what the text lays.
-/
import Derived.Test.YtdcifghlgeiobaaDoorCmat
import Derived.Test.YtdcifghlgeiobaaDoorClaw1
namespace Go.Proofs.YtdcifghlgeiobaaDoor
open Go.RowKit
set_option linter.unusedVariables false
set_option linter.unusedSimpArgs false

set_option maxHeartbeats 400000 in
theorem combine_neg (a b : Nat) (n : Int) (w : World) (ha : a < 4294967296) (hb0 : b < 4294967296) (hn : n < 0) (ht : Tab w) :
    Calls Tryd.prog 28 #[.int .u32 (a : Int), .int .u32 (b : Int), .int .i64 n] w fun e w' => e = .returned (.int .u32 ((a ^^^ b : Nat) : Int)) ∧ Below w.heap.size w w' := by
  have hxor := u32_xor_nat a b ha hb0
  go_enter Tryd.func28, Tryd.ntmps28
  go_wp2_with fail
  (with_reducible refine (oneByte_any _ ht).mono ?_)
  rintro e w1 ⟨rfl, hb1⟩
  go_wp2_with (with_reducible refine wpList_store_row rfl 53 (.tmp 7) (.tmp 8) rfl w1.heap.size (matA 8) rfl rfl _ _ (heap_alloc_new w1 _) (by rw [matA_size]; exact info_mat) (by rw [matA_size]; with_unfolding_all exact rfl) (matA_one 8) ?_)
  have z1 := hb1.size
  have hb2 := below_setRow1 (below_next hb1 (below_made w1 (.cells #[.int .u32 0, .int .u32 0, .int .u32 0, .int .u32 0, .int .u32 0, .int .u32 0, .int .u32 0, .int .u32 0, .int .u32 0, .int .u32 0, .int .u32 0, .int .u32 0, .int .u32 0, .int .u32 0, .int .u32 0, .int .u32 0, .int .u32 0, .int .u32 0, .int .u32 0, .int .u32 0, .int .u32 0, .int .u32 0, .int .u32 0, .int .u32 0, .int .u32 0, .int .u32 0, .int .u32 0, .int .u32 0, .int .u32 0, .int .u32 0, .int .u32 0, .int .u32 0] 53))) z1 (matA 8)
  simp only [Act.put]
  clear hb1
  go_loopw [0, 2] (fun av nv wr => av = .int .u32 (a : Int) ∧ nv = .int .i64 n ∧ Below w.heap.size w wr) (fun _ nv _ => 0)
  case atStart => exact ⟨rfl, rfl, hb2⟩
  case round =>
    clear hb2
    obtain ⟨rfl, rfl, hb⟩ := hrel
    go_wp2_with fail
    go_ret
    exact ⟨ret_int rfl, hb⟩

theorem combine_any (a b : Nat) (n : Int) (w : World) (ha : a < 4294967296) (hb0 : b < 4294967296) (hn : n ≤ 9223372036854775807) (ht : Tab w) :
    Calls Tryd.prog 28 #[.int .u32 (a : Int), .int .u32 (b : Int), .int .i64 n] w fun e w' => e = .returned (.int .u32 ((bitN (8 * n.toNat) a ^^^ b : Nat) : Int)) ∧ Below w.heap.size w w' := by
  by_cases h : n < 0
  · have : n.toNat = 0 := by omega
    rw [this]; exact combine_neg a b n w ha hb0 h ht
  · obtain ⟨n, rfl⟩ := Int.eq_ofNat_of_zero_le (by omega : 0 ≤ n)
    exact combine_nat a b n w ha hb0 (by omega) ht

theorem rtake0 (x : Nat) (w : World) (hx : x < 4294967296) :
    Calls Tryd.prog 31 #[.int .u32 (x : Int), .int .u8 0] w fun e w' => e = .returned (.int .u32 ((take8 x 0 : Nat) : Int)) ∧ w = w' := rtake_any x 0 w hx (by decide)

theorem bitN_8 (k a : Nat) : bitN (8 * (k + 1)) a = take8 (bitN (8 * k) a) 0 := by
  unfold take8; rw [Nat.mul_add, bitN_add, Nat.xor_zero]

set_option maxHeartbeats 400000 in
theorem rcombine_any (a b : Nat) (n : Int) (w : World) (ha : a < 4294967296) (hb0 : b < 4294967296) (hn : n ≤ 9223372036854775807) :
    Calls Tryd.prog 29 #[.int .u32 (a : Int), .int .u32 (b : Int), .int .i64 n] w fun e w' => e = .returned (.int .u32 ((bitN (8 * n.toNat) a ^^^ b : Nat) : Int)) ∧ Below w.heap.size w w' := by
  go_enter Tryd.func29, Tryd.ntmps29
  go_wp2_with fail
  go_loopw [0, 7] (fun av iv wr => ∃ k : Nat, av = .int .u32 ((bitN (8 * k) a : Nat) : Int) ∧ iv = .int .i64 (k : Int) ∧ k ≤ n.toNat ∧ w = wr) (fun _ iv _ => n.toNat - (intOf iv).toNat)
  case atStart => exact ⟨0, rfl, rfl, Nat.zero_le _, rfl⟩
  case round =>
    obtain ⟨k, rfl, rfl, hk, rfl⟩ := hrel
    have hx := bitN_lt (8 * k) a ha
    have HB := Lib.hid (bitN_8 k a)
    obtain ⟨x, hxx⟩ : ∃ x, bitN (8 * k) a = x := ⟨_, rfl⟩
    rw [hxx] at hx HB ⊢
    by_cases hlt : (k : Int) < n
    · go_wp2_with fail
      (with_reducible refine (rtake0 x _ hx).mono ?_)
      rintro e w' ⟨rfl, rfl⟩
      go_wp2_with fail
      go_roundw
      case rel => exact ⟨k + 1, by rw [HB.out], by go_num, by omega, trivial⟩
      case measure => simp [intOf]; omega
    · obtain rfl : k = n.toNat := by omega
      have hxor := u32_xor_nat x b hx hb0
      go_wp2_with fail
      go_ret
      exact ⟨ret_int rfl, Below.refl _ _⟩

theorem i64_mask61 (n : Int) : bits .and .i64 n 2305843009213693951 = n % 2305843009213693952 := by
  have h127 : (BitVec.ofInt 64 2305843009213693951).toNat = 2 ^ 61 - 1 := by decide
  have key : (BitVec.ofInt 64 n &&& BitVec.ofInt 64 2305843009213693951).toNat = (n % ((2 ^ 64 : Nat) : Int)).toNat % 2 ^ 61 := by
    rw [BitVec.toNat_and, BitVec.toNat_ofInt, h127, Nat.and_two_pow_sub_one_eq_mod]
  show IntKind.i64.wrap ((BitVec.ofInt 64 n &&& BitVec.ofInt 64 2305843009213693951).toNat : Nat) = n % 2305843009213693952
  rw [key, IntKind.wrap_i64]
  omega

theorem combine_sums (l1 l2 : List UInt8) (n : Nat) (h : l2.length = n) : bitN (8 * (n : Int).toNat) (sumN 0 l1) ^^^ sumN 0 l2 = sumN 0 (l1 ++ l2) := by
  rw [Int.toNat_natCast, ← h]; exact sumN_combine l1 l2

set_option maxHeartbeats 800000 in
theorem combines_walk (a1 : Option Addr) (n1 c1 : Nat) (l1 : List UInt8) (a2 : Option Addr) (n2 c2 : Nat) (l2 : List UInt8) (a b n : Int) (w : World)
    (r1 : RowAt w a1 n1 c1 1 (l1.map B)) (hs1 : n1 ≤ 1048576) (r2 : RowAt w a2 n2 c2 1 (l2.map B)) (hs2 : n2 ≤ 1048576)
    (ha0 : 0 ≤ a) (ha1 : a < 4294967296) (hb0 : 0 ≤ b) (hb1 : b < 4294967296) (hn0 : -9223372036854775808 ≤ n) (hn1 : n ≤ 9223372036854775807) (ht : Tab w) :
    Calls Tryd.prog 9 #[.slice a1 n1 c1, .slice a2 n2 c2, .int .u32 a, .int .u32 b, .int .i64 n] w fun e w' => e = .returned (.bool true) ∧ Below w.heap.size w w' := by
  obtain ⟨a, rfl⟩ := Int.eq_ofNat_of_zero_le ha0
  obtain ⟨b, rfl⟩ := Int.eq_ofNat_of_zero_le hb0
  have ha : a < 4294967296 := by omega
  have hb : b < 4294967296 := by omega
  clear ha0 ha1 hb0 hb1
  have e2 : l2.length = n2 := by simpa using r2.len
  have HC := Lib.hid (combine_sums l1 l2 n2 e2); clear e2
  have s1 := sumN_lt 0 l1
  have s2 := sumN_lt 0 l2
  obtain ⟨S, hS⟩ : ∃ S, sumN 0 (l1 ++ l2) = S := ⟨_, rfl⟩
  rw [hS] at HC
  have HS := Lib.hid hS; clear hS
  have hq : (((S : Nat) : Int) != (S : Int)) = false := by simp
  go_enter Tryd.func9, Tryd.ntmps9
  go_wp2_with fail
  (with_reducible refine (head_any _ ht).mono ?_)
  rintro e w1 ⟨rfl, hb1⟩
  have ht1 := ht.below hb1
  have r1' := r1.below hb1
  have r2' := r2.below hb1
  clear r1 r2
  go_wp2_with fail
  (with_reducible refine (sum_any _ _ _ l1 _ r1' ht1).mono ?_)
  rintro e w2 ⟨rfl, rfl⟩
  go_wp2_with fail
  (with_reducible refine (sum_any _ _ _ l2 _ r2' ht1).mono ?_)
  rintro e w2 ⟨rfl, rfl⟩
  go_wp2_with fail
  (with_reducible refine (combine_any _ _ _ _ s1 s2 (by omega) ht1).mono ?_)
  rintro e w2 ⟨rfl, hb2⟩
  rw [HC.out]
  have ht2 := ht1.below hb2
  have r1b := r1'.below hb2
  have r2b := r2'.below hb2
  have hb3 := below_next hb1 hb2
  clear r1' r2' ht1 hb1 hb2
  go_wp2_with fail
  (with_reducible refine (join_any _ _ _ _ _ _ _ _ _ (by omega) r1b r2b).mono ?_)
  rintro e w3 ⟨base, cap, rfl, hown, hb4⟩
  have hr3 := own_rowAt hown
  rw [List.length_append] at hr3
  have hb5 := below_next hb3 hb4
  have ht3 := ht2.below hb4
  go_wp2_with fail
  (with_reducible refine (rsum_any _ _ _ (l1 ++ l2) _ hr3).mono ?_)
  rintro e w4 ⟨rfl, rfl⟩
  rw [HS.out]
  clear hb3 hb4 r1b r2b hown hr3
  obtain ⟨k, hk0, hk⟩ : ∃ k : Int, k ≤ 9223372036854775807 ∧ ((4096 < n ∧ Int.tmod n 4096 = k) ∨ (¬ 4096 < n ∧ n = k)) := by
    by_cases h : 4096 < n
    · exact ⟨Int.tmod n 4096, by rw [Int.tmod_eq_emod_of_nonneg (by omega)]; omega, .inl ⟨h, rfl⟩⟩
    · exact ⟨n, hn1, .inr ⟨h, rfl⟩⟩
  obtain ⟨R, hR⟩ : ∃ R, bitN (8 * k.toNat) a ^^^ b = R := ⟨_, rfl⟩
  have hRR : (((R : Nat) : Int) == (R : Int)) = true := by simp
  rcases hk with ⟨hlt, hk⟩ | ⟨hlt, rfl⟩
  all_goals
    go_wp2_with fail
    (with_reducible refine (combine_any _ _ _ _ ha hb (by omega) ht3).mono ?_)
    rintro e w5 ⟨rfl, hb6⟩
    rw [hR]
    have hb7 := below_next hb5 hb6
    clear hb5 hb6
    go_wp2_with fail
    (with_reducible refine (rcombine_any _ _ _ _ ha hb (by omega)).mono ?_)
    rintro e w6 ⟨rfl, hb8⟩
    rw [hR]
    have hb9 := below_next hb7 hb8
    go_wp2_with fail
    go_ret
    exact ⟨ret_bool (by simp), hb9⟩

theorem combine0 (a : Nat) (N : Int) (w : World) (ha : a < 4294967296) (hN : N ≤ 9223372036854775807) (ht : Tab w) :
    Calls Tryd.prog 28 #[.int .u32 (a : Int), .int .u32 0, .int .i64 N] w fun e w' => e = .returned (.int .u32 ((bitN (8 * N.toNat) a : Nat) : Int)) ∧ Below w.heap.size w w' := by
  have := combine_any a 0 N w ha (by decide) (by omega) ht
  rw [Nat.xor_zero] at this
  exact this

theorem far_beq (K a b : Nat) (ha : a < 4294967296) (hb : b < 4294967296) : (((bitN K b : Nat) : Int) == ((bitN K a : Nat) : Int)) = ((a : Int) == (b : Int)) := by
  rw [Bool.eq_iff_iff, beq_iff_eq, beq_iff_eq]
  constructor
  · intro h; have := bitN_inj K b a hb ha (by omega); omega
  · intro h; have : a = b := by omega
    rw [this]

set_option maxHeartbeats 800000 in
theorem far_walk (a b n m : Int) (w : World)
    (ha0 : 0 ≤ a) (ha1 : a < 4294967296) (hb0 : 0 ≤ b) (hb1 : b < 4294967296) (hn0 : -9223372036854775808 ≤ n) (hn1 : n ≤ 9223372036854775807) (hm0 : -9223372036854775808 ≤ m) (hm1 : m ≤ 9223372036854775807) (ht : Tab w) :
    Calls Tryd.prog 10 #[.int .u32 a, .int .u32 b, .int .i64 n, .int .i64 m] w fun e w' => e = .returned (.bool true) ∧ Below w.heap.size w w' := by
  obtain ⟨a, rfl⟩ := Int.eq_ofNat_of_zero_le ha0
  obtain ⟨b, rfl⟩ := Int.eq_ofNat_of_zero_le hb0
  have ha : a < 4294967296 := by omega
  have hb : b < 4294967296 := by omega
  clear ha0 ha1 hb0 hb1
  obtain ⟨N, hN, hN0, hN1⟩ : ∃ N : Int, bits .and .i64 n 2305843009213693951 = N ∧ 0 ≤ N ∧ N < 2305843009213693952 := ⟨n % 2305843009213693952, by rw [i64_mask61], by omega, by omega⟩
  obtain ⟨M, hM, hM0, hM1⟩ : ∃ M : Int, bits .and .i64 m 2305843009213693951 = M ∧ 0 ≤ M ∧ M < 2305843009213693952 := ⟨m % 2305843009213693952, by rw [i64_mask61], by omega, by omega⟩
  clear hn0 hn1 hm0 hm1
  have hfb := far_beq (8 * (N + M).toNat) a b ha hb
  have hxx := Lib.hid (show bitN (8 * (N + M).toNat) a = bitN (8 * M.toNat) (bitN (8 * N.toNat) a) by rw [show (N + M).toNat = N.toNat + M.toNat by omega, Nat.mul_add, bitN_add])
  have hx := bitN_lt (8 * N.toNat) a ha
  have hxor := u32_xor_nat (bitN (8 * N.toNat) a) b hx hb
  obtain ⟨A, hA⟩ : ∃ A, bitN (8 * N.toNat) a = A := ⟨_, rfl⟩
  obtain ⟨F, hF⟩ : ∃ F, bitN (8 * (N + M).toNat) a = F := ⟨_, rfl⟩
  obtain ⟨G, hG⟩ : ∃ G, bitN (8 * (N + M).toNat) b = G := ⟨_, rfl⟩
  rw [hA] at hx hxor
  have hFF : ((F : Int) == (F : Int)) = true := by simp
  have hFx : ((F : Int) != (F : Int)) = false := by simp
  rw [hF, hG] at hfb
  have hF1 : Hid (bitN (8 * M.toNat) A = F) := Lib.hid (by rw [← hF, hxx.out, hA])
  have hA := Lib.hid hA
  have hF := Lib.hid hF
  have hG := Lib.hid hG
  clear hxx
  go_enter Tryd.func10, Tryd.ntmps10
  go_wp2_with fail
  (with_reducible refine (head_any _ ht).mono ?_)
  rintro e w1 ⟨rfl, hb1⟩
  have ht1 := ht.below hb1
  go_wp2_with fail
  (with_reducible refine (combine0 a (N + M) _ ha (by omega) ht1).mono ?_)
  rintro e w2 ⟨rfl, hb2⟩
  rw [hF.out]
  have ht2 := ht1.below hb2
  have hb3 := below_next hb1 hb2
  clear hb1 hb2
  go_wp2_with fail
  (with_reducible refine (combine0 a N _ ha (by omega) ht2).mono ?_)
  rintro e w3 ⟨rfl, hb4⟩
  rw [hA.out]
  have ht3 := ht2.below hb4
  have hb5 := below_next hb3 hb4
  clear hb3 hb4
  go_wp2_with fail
  (with_reducible refine (combine0 _ M _ hx (by omega) ht3).mono ?_)
  rintro e w4 ⟨rfl, hb6⟩
  have ht4 := ht3.below hb6
  have hb7 := below_next hb5 hb6
  clear hb5 hb6
  rw [hF1.out]
  go_wp2_with fail
  (with_reducible refine (combine0 b (N + M) _ hb (by omega) ht4).mono ?_)
  rintro e w5 ⟨rfl, hb8⟩
  rw [hG.out]
  have ht5 := ht4.below hb8
  have hb9 := below_next hb7 hb8
  clear hb7 hb8
  have heq : (((G : Int) == (F : Int)) == ((a : Int) == (b : Int))) = true := by rw [hfb]; simp
  have hAx : ((((A ^^^ b : Nat) : Int)) == (((A ^^^ b : Nat) : Int))) = true := by simp
  go_wp2_with fail
  (with_reducible refine (combine_any a b N _ ha hb (by omega) ht5).mono ?_)
  rintro e w6 ⟨rfl, hb10⟩
  rw [hA.out]
  have ht6 := ht5.below hb10
  have hb11 := below_next hb9 hb10
  clear hb9 hb10
  go_wp2_with fail
  (with_reducible refine (combine0 a N _ ha (by omega) ht6).mono ?_)
  rintro e w7 ⟨rfl, hb12⟩
  rw [hA.out]
  have hb13 := below_next hb11 hb12
  clear hb11 hb12
  go_wp2_with fail
  go_ret
  exact ⟨ret_bool (by simp), hb13⟩
end Go.Proofs.YtdcifghlgeiobaaDoor
