/-
  The walks of VarintDecodes, VarintEncodes, VarintBack. Conditions: arguments read as their types say, within the form's own reach.
-/
import Derived.Test.YthejahoiodoalaaVlaw1
namespace Go.Proofs.Ythejahoiodoalaa
open Go.RowKit
set_option linter.unusedVariables false

theorem decV_get (l : List UInt8) : ∃ u n e : Nat, Hid (dec l = (u, n, e)) ∧ Hid (decV l = .tuple #[.int .u64 (u : Int), .int .i64 (n : Int), .int .i64 (e : Int)]) ∧ u < 2 ^ 64 ∧ n ≤ 10 ∧ e ≤ 12 := by
  obtain ⟨h1, h2, _, h4⟩ := dec_bd l
  obtain ⟨x, hx⟩ : ∃ x, dec l = x := ⟨_, rfl⟩
  obtain ⟨u, n, e⟩ := x
  rw [hx] at h1 h2 h4
  exact ⟨u, n, e, Lib.hid hx, Lib.hid (by unfold decV; rw [hx]), by simpa using h1, h2, h4⟩

set_option maxHeartbeats 400000 in
theorem decodes_walk (a : Option Addr) (n c : Nat) (l : List UInt8) (w : World) (r : RowAt w a n c 1 (l.map B)) (hs : n * 1 ≤ 140737488351232) :
    Calls Try.prog 6 #[.slice a n c] w fun e w' => e = .returned (.bool true) ∧ Below w.heap.size w w' := by
  have e1 : l.length = n := by simpa using r.len
  have H1 := Lib.hid e1; clear e1
  go_enter Try.func6, Try.ntmps6
  go_wp2_with fail
  refine (head_any _).mono ?_
  rintro e w1 ⟨rfl, hb1⟩
  go_wp2_with fail
  refine (copy_any _ _ _ l _ (by omega) (r.below hb1)).mono ?_
  rintro e w2 ⟨a2, c2, rfl, hown, hb2⟩
  have hb := below_next hb1 hb2
  have r1 := r.below hb
  have r2 := own_rowAt hown
  rw [H1.out] at *
  clear hown hb1 hb2
  go_wp2_with fail
  go_loop [4, 5, 6, 7, 8, 9, 10] (fun iv _ _ _ _ _ _ => ∃ k : Nat, iv = .int .i64 (k : Int) ∧ k ≤ n + 1) (fun iv _ _ _ _ _ _ => n + 1 - (intOf iv).toNat)
  case atStart => exact ⟨0, rfl, Nat.zero_le _⟩
  case round =>
    obtain ⟨k, rfl, hk⟩ := hrel
    by_cases hlt : k ≤ n
    · obtain ⟨a3, hcut1, q1⟩ := cut_from slB r1 k hlt
      obtain ⟨a4, hcut2, q2⟩ := cut_from slB r2 k hlt
      rw [Nat.mul_one, ← List.map_drop] at q1 q2
      obtain ⟨u, m, e, HD, HV, g1, g2, g3⟩ := decV_get (l.drop k)
      have hb3 : ((u : Int) != (u : Int)) = false := by simp
      have hb4 : ((m : Int) != (m : Int)) = false := by simp
      have hb5 : ((e : Int) != (e : Int)) = false := by simp
      go_wp2_with fail
      refine (rdec_any _ _ _ (l.drop k) _ q1).mono ?_
      rintro e w3 ⟨rfl, rfl⟩
      rw [HV.out]
      go_wp2_with fail
      refine (dec_any _ _ _ (l.drop k) _ q2).mono ?_
      rintro e w3 ⟨rfl, rfl⟩
      rw [HV.out]
      go_wp2_with fail
      go_round
      case rel => exact ⟨k + 1, by go_num, by omega⟩
      case measure => first | (simp [intOf]; omega) | simp [intOf]
    · go_wp2_with fail
      refine (same_any _ _ _ l _ _ _ l _ r1 r2).mono ?_
      rintro e w3 ⟨rfl, hst⟩
      rw [beq_self_eq_true]
      go_wp2_with fail
      go_ret
      exact ⟨rfl, below_still hb hst⟩

set_option maxHeartbeats 400000 in
theorem encodes_walk (a : Option Addr) (n c : Nat) (us : List UInt64) (w : World) (r : RowAt w a n c 1 (us.map U)) (hs : n * 8 ≤ 140737488351232) :
    Calls Try.prog 8 #[.slice a n c] w fun e w' => e = .returned (.bool true) ∧ Below w.heap.size w w' := by
  have e1 : us.length = n := by simpa using r.len
  have H1 := Lib.hid e1; clear e1
  go_enter Try.func8, Try.ntmps8
  go_wp2_with fail
  refine (head_any _).mono ?_
  rintro e w1 ⟨rfl, hb1⟩
  go_wp2_with fail
  go_loopw [4, 5, 10] (fun _ _ iv wr => ∃ k : Nat, iv = .int .i64 (k : Int) ∧ k ≤ n ∧ Below w.heap.size w wr) (fun _ _ iv _ => n - (intOf iv).toNat)
  case atStart => exact ⟨0, rfl, Nat.zero_le _, hb1⟩
  case round =>
    clear hb1
    obtain ⟨k, rfl, hk, hb⟩ := hrel
    by_cases hlt : k < n
    · obtain ⟨b1, o1, x, rfl, hx1, hc1⟩ := (r.below hb).elem k hlt
      unfold U at hc1
      have hx := x.toNat_lt
      clear hx1
      have hl := enc_len10 x.toNat (by omega)
      go_wp2_with fail
      refine (renc_n _ _ _ (Nat.le_refl _) (by omega) (by omega)).mono ?_
      rintro e w2 ⟨a2, cap2, rfl, hown2, hb2⟩
      go_wp2_with fail
      refine (enc_any _ _ (by omega) (by omega)).mono ?_
      rintro e w3 ⟨a3, cap3, rfl, hown3, hb3⟩
      have r2 := (own_rowAt hown2).below hb3
      have r3 := own_rowAt hown3
      have hb4 := below_next (below_next hb hb2) hb3
      rw [Int.toNat_natCast] at *
      clear hown2 hown3 hb2 hb3
      go_wp2_with fail
      refine (same_any _ _ _ _ _ _ _ _ _ r3 r2).mono ?_
      rintro e w4 ⟨rfl, hst⟩
      rw [beq_self_eq_true]
      have hb5 := below_still hb4 hst
      clear hb4 hst r2 r3
      have hbb : (((enc x.toNat).length : Int) != ((enc x.toNat).length : Int)) = false := by simp
      go_wp2_with fail
      refine (size_any _ _ (by omega) (by omega)).mono ?_
      rintro e w4 ⟨rfl, rfl⟩
      rw [Int.toNat_natCast] at *
      go_wp2_with fail
      go_roundw
      case rel => exact ⟨k + 1, by go_num, by omega, hb5⟩
      case measure => first | (simp [intOf]; omega) | simp [intOf]
    · go_wp2_with fail
      go_ret
      exact ⟨rfl, hb⟩
end Go.Proofs.Ythejahoiodoalaa
