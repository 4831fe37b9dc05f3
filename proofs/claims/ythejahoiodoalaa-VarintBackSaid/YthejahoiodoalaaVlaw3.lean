/-
  The walks of VarintOneForm and VarintBack. Conditions: arguments read as their types say, within the form's own reach.
-/
import Derived.Test.YthejahoiodoalaaVlaw2
import Derived.Deep.RegionWith
namespace Go.Proofs.Ythejahoiodoalaa
open Go.RowKit
set_option linter.unusedVariables false

set_option maxHeartbeats 400000 in
theorem oneForm_walk (a : Option Addr) (n c : Nat) (l : List UInt8) (w : World) (r : RowAt w a n c 1 (l.map B)) (hs : n * 1 ≤ 140737488351232) :
    Calls Try.prog 7 #[.slice a n c] w fun e w' => e = .returned (.bool true) ∧ Below w.heap.size w w' := by
  have e1 : l.length = n := by simpa using r.len
  obtain ⟨u, m, e, HD, HV, g1, g2, g3⟩ := decV_get l
  by_cases he : e = 0
  · subst he
    obtain ⟨d1, d2, d3⟩ := dec_enc HD.out
    have hmn : m ≤ n := by omega
    have HE := Lib.hid d1; clear d1 d3
    have H1 := Lib.hid e1; clear e1
    have hcut := fun wx => run_cut0 (a := a) (n := n) slB wx m (Nat.le_trans hmn r.2.1)
    have hnc : m ≤ c := Nat.le_trans hmn r.2.1
    go_enter Try.func7, Try.ntmps7
    go_wp2_with fail
    refine (head_any _).mono ?_
    rintro e w1 ⟨rfl, hb1⟩
    go_wp2_with fail
    refine (dec_any _ _ _ l _ (r.below hb1)).mono ?_
    rintro e w2 ⟨rfl, rfl⟩
    rw [HV.out]
    go_wp2_with fail
    go_region_with (first
      | (go_at_call 18; refine (enc_any _ _ (by omega) (by omega)).mono ?_; rintro e w3 ⟨a3, cap3, rfl, hown3, hb3⟩)
      | (go_at_call 23; refine (same_any _ _ _ _ _ _ _ (l.take m) _ (own_rowAt hown3) (by exact rowB_upto ((r.below hb1).below (below_undrew hb3)) hmn)).mono ?_; rintro e w4 ⟨rfl, hst4⟩))
    go_wp2_with fail
    go_ret
    refine ⟨ret_bool ?_, below_still (below_next hb1 (below_undrew hb3)) hst4⟩
    have := HE.out
    rw [this]; simp
  · have he' : ((e : Int) != 0) = true := by rw [bne_iff_ne]; omega
    obtain ⟨rfl, rfl⟩ : u = 0 ∧ m = 0 := by have := dec_err l (by rw [HD.out]; exact he); rw [HD.out] at this; exact this
    clear he
    go_enter Try.func7, Try.ntmps7
    go_wp2_with fail
    refine (head_any _).mono ?_
    rintro e w1 ⟨rfl, hb1⟩
    go_wp2_with fail
    refine (dec_any _ _ _ l _ (r.below hb1)).mono ?_
    rintro e w2 ⟨rfl, rfl⟩
    rw [HV.out]
    go_wp2_with fail
    go_ret
    exact ⟨rfl, hb1⟩

set_option maxHeartbeats 800000 in
theorem back_walk (u : Int) (a : Option Addr) (n c : Nat) (l : List UInt8) (w : World) (h0 : 0 ≤ u) (hu : u < 18446744073709551616) (r : RowAt w a n c 1 (l.map B)) (hs : n * 1 ≤ 140737488351232) :
    Calls Try.prog 9 #[.int .u64 u, .slice a n c] w fun e w' => e = .returned (.bool true) ∧ Below w.heap.size w w' := by
  have e1 : l.length = n := by simpa using r.len
  have H1 := Lib.hid e1; clear e1
  have hl1 := enc_len_pos u.toNat
  have hl2 := enc_len10 u.toNat (by omega)
  have HB := Lib.hid (dec_of_enc u.toNat l (by omega))
  have HS := Lib.hid (dec_short u.toNat)
  have HV : Hid (decV (enc u.toNat ++ l) = .tuple #[.int .u64 u, .int .i64 ((enc u.toNat).length : Int), .int .i64 0]) := Lib.hid (by unfold decV; rw [HB.out]; simp only [Int.toNat_of_nonneg h0]; rfl)
  obtain ⟨m, hm⟩ : ∃ m, (enc u.toNat).length = m := ⟨_, rfl⟩
  go_enter Try.func9, Try.ntmps9
  go_wp2_with fail
  refine (head_any _).mono ?_
  rintro e w1 ⟨rfl, hb1⟩
  have HM := Lib.hid hm
  rw [hm] at hl1 hl2 HV
  clear hm
  go_wp2_with fail
  refine (enc_any _ _ h0 hu).mono ?_
  rintro e w2 ⟨a2, c2, rfl, hown, hb2⟩
  have r1 := own_rowAt hown
  have hb := below_next hb1 hb2
  rw [HM.out] at r1 ⊢
  clear hown hb1 hb2
  have hmc : m ≤ c2 := r1.2.1
  go_wp2_with fail
  go_loop [6, 7, 8, 9] (fun iv _ _ _ => ∃ k : Nat, iv = .int .i64 (k : Int) ∧ k ≤ m) (fun iv _ _ _ => m - (intOf iv).toNat)
  case atStart => exact ⟨0, rfl, Nat.zero_le _⟩
  case round =>
    obtain ⟨k, rfl, hk⟩ := hrel
    by_cases hlt : k < m
    · have hcut := fun wx => run_cut0 (a := a2) (n := m) slB wx k (by omega)
      have HK : Hid (decV ((enc u.toNat).take k) = .tuple #[.int .u64 0, .int .i64 0, .int .i64 10]) := Lib.hid (by unfold decV; rw [HS.out k (by omega) (by rw [HM.out]; exact hlt)]; rfl)
      go_wp2_with fail
      refine (dec_any _ _ _ ((enc u.toNat).take k) _ (rowB_upto r1 hk)).mono ?_
      rintro e w3 ⟨rfl, rfl⟩
      rw [HK.out]
      go_wp2_with fail
      go_round
      case rel => exact ⟨k + 1, by go_num, by omega⟩
      case measure => first | (simp [intOf]; omega) | simp [intOf]
    · go_wp2_with fail
      refine (copy_any _ _ _ (enc u.toNat) _ (by omega) r1).mono ?_
      rintro e w3 ⟨a3, c3, rfl, hown3, hb3⟩
      rw [HM.out] at hown3 ⊢
      have hbw := below_next hb hb3
      have hsz := hbw.size
      have hsz2 := hb3.size
      go_wp2_with (at_builtin; refine wpList_app rfl _ _ 29 rfl slB rfl hown3 rfl (r.below hbw) (B_one _) (by omega) (by omega) fun a4 c4 w4 hown4 hg4 => ?_)
      have r4 := own_rowAt hown4
      rw [← List.map_append] at r4
      refine (dec_any _ _ _ (enc u.toNat ++ l) _ r4).mono ?_
      rintro e w5 ⟨rfl, rfl⟩
      rw [HV.out]
      have hb5 := hbw.grown hg4 hsz (fun k hk => by have := own_block hown3 k hk; have := hb.size; omega)
      have hbb : ((m : Int) == (m : Int)) = true := by simp
      have hbu : (u == u) = true := by simp
      clear hown3 hown4 hg4 hbw hb3
      go_wp2_with fail
      refine (size_any _ _ h0 hu).mono ?_
      rintro e w6 ⟨rfl, rfl⟩
      rw [HM.out]
      go_wp2_with fail
      go_ret
      exact ⟨rfl, hb5⟩
end Go.Proofs.Ythejahoiodoalaa
