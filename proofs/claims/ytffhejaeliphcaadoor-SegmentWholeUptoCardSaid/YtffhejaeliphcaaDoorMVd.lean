/-
  The walk of Decode: what it gives for every slice of bytes. No condition beyond that the argument reads as bytes.
  The walk of the reference's Decode: it gives what Decode gives, for every slice of bytes. No condition beyond that the argument reads as bytes.
-/
import Derived.Test.YtffhejaeliphcaaDoorMBytes
import Derived.Test.YtffhejaeliphcaaDoorMVb
import Derived.WalkSpells
import Derived.Lib.Hide
namespace Go.Proofs.YtffhejaeliphcaaDoor
open Go.RowKit
set_option linter.unusedVariables false

theorem ret3 {a b c : Int} {x y z : Int} (h1 : a = x) (h2 : b = y) (h3 : c = z) : Ending.returned (.tuple #[.int .u64 a, .int .i64 b, .int .i64 c]) = .returned (.tuple #[.int .u64 x, .int .i64 y, .int .i64 z]) := by rw [h1, h2, h3]

def decV (l : List UInt8) : Value := .tuple #[.int .u64 ((dec l).1 : Int), .int .i64 ((dec l).2.1 : Int), .int .i64 ((dec l).2.2 : Int)]

theorem decV_of {l : List UInt8} {x : Nat × Nat × Nat} (h : dec l = x) {a b c : Int} (h1 : a = x.1) (h2 : b = x.2.1) (h3 : c = x.2.2) : Ending.returned (.tuple #[.int .u64 a, .int .i64 b, .int .i64 c]) = .returned (decV l) := by
  unfold decV; rw [h, h1, h2, h3]

set_option maxHeartbeats 400000 in
theorem dec_any (a1 : Option Addr) (n1 c1 : Nat) (l : List UInt8) (w : World) (r1 : RowAt w a1 n1 c1 1 (l.map B)) :
    Calls Tryd.prog 72 #[.slice a1 n1 c1] w fun e w' => e = .returned (decV l) ∧ w = w' := by
  have e1 : l.length = n1 := by simpa using r1.len
  have H1 := Lib.hid e1; clear e1
  have m1 := r1.2.2.1
  have m2 := r1.2.1
  unfold maxLen at m1
  go_enter Tryd.func72, Tryd.ntmps72
  go_wp2
  go_loop [5, 6, 7, 10] (fun uv _ _ iv => ∃ k u : Nat, iv = .int .i64 (k : Int) ∧ uv = .int .u64 (u : Int) ∧ k ≤ n1 ∧ k ≤ 9 ∧ Hid (u < 128 ^ k) ∧ Hid (dec l = decGo (l.drop k) k u)) (fun _ _ _ iv => n1 - (intOf iv).toNat)
  case atStart => exact ⟨0, 0, rfl, rfl, Nat.zero_le _, Nat.zero_le _, Lib.hid (by simp), Lib.hid rfl⟩
  case round =>
    obtain ⟨k, u, rfl, rfl, hk, hk9, HU, HT⟩ := hrel
    by_cases hlt : k < n1
    · obtain ⟨b1, o1, x, rfl, hx1, hc1⟩ := r1.byte k hlt
      have hx := x.toNat_lt
      have HX1 := Lib.hid hx1; clear hx1
      have HG : Hid (dec l = decGo (x :: l.drop (k + 1)) k u) := by have := HT.out; rw [drop_at HX1.out] at this; exact this
      by_cases h9 : k = 9 ∧ 1 < x.toNat
      · have b9 : ((k : Int) == 9) = true := by rw [beq_iff_eq]; omega
        have b1 : (1 : Int) < (x.toNat : Int) := by omega
        have H9 := Lib.hid h9; clear h9
        go_wp2
        go_ret3
        have h9 := H9.out
        exact ⟨decV_of HG.out (by rw [decGo, if_pos h9]; rfl) (by rw [decGo, if_pos h9]; rfl) (by rw [decGo, if_pos h9]; rfl), rfl⟩
      · have HO := Lib.hid (dec_or u x.toNat k hk9 HU.out hx h9)
        have H9 := Lib.hid h9
        by_cases h128 : 128 ≤ x.toNat
        · have hk8 : k < 9 := by omega
          have b9 : ((k : Int) == 9) = false := by rw [beq_eq_false_iff_ne]; omega
          have b128 : (128 : Int) ≤ (x.toNat : Int) := by omega
          clear h9
          go_wp2
          go_round
          case rel =>
            refine ⟨k + 1, _, by go_num, congrArg _ HO.out, by omega, by omega, Lib.hid ?_, Lib.hid ?_⟩
            · have hu := HU.out
              have hm : x.toNat % 128 * 128 ^ k ≤ 127 * 128 ^ k := Nat.mul_le_mul_right _ (by omega)
              rw [Nat.pow_succ]; omega
            · have := HG.out; rw [decGo, if_neg H9.out, if_pos h128] at this; exact this
          case measure => simp [intOf]; omega
        · have b128 : ¬ (128 : Int) ≤ (x.toNat : Int) := by omega
          have n9 : ((k : Int) == 9 && decide ((1 : Int) < (x.toNat : Int))) = false := by
            rw [Bool.and_eq_false_iff, beq_eq_false_iff_ne, decide_eq_false_iff_not]
            by_cases hk : k = 9
            · right; have := H9.out; omega
            · left; omega
          clear h9
          by_cases hz : x.toNat = 0 ∧ 0 < k
          · have z1 : ((x.toNat : Int) == 0) = true := by rw [beq_iff_eq]; omega
            have z2 : (0 : Int) < (k : Int) := by omega
            have HZ := Lib.hid hz; clear hz
            by_cases hk9' : k = 9
            · have b9 : ((k : Int) == 9) = true := by rw [beq_iff_eq]; omega
              have b1 : ¬ (1 : Int) < (x.toNat : Int) := by have := H9.out; omega
              have HK := Lib.hid hk9'; clear hk9'
              go_wp2
              go_ret3
              exact ⟨decV_of HG.out (by rw [decGo, if_neg H9.out, if_neg h128, if_pos HZ.out]; rfl) (by rw [decGo, if_neg H9.out, if_neg h128, if_pos HZ.out]; rfl) (by rw [decGo, if_neg H9.out, if_neg h128, if_pos HZ.out]; rfl), rfl⟩
            · have b9 : ((k : Int) == 9) = false := by rw [beq_eq_false_iff_ne]; omega
              go_wp2
              go_ret3
              exact ⟨decV_of HG.out (by rw [decGo, if_neg H9.out, if_neg h128, if_pos HZ.out]; rfl) (by rw [decGo, if_neg H9.out, if_neg h128, if_pos HZ.out]; rfl) (by rw [decGo, if_neg H9.out, if_neg h128, if_pos HZ.out]; rfl), rfl⟩
          · have HZ := Lib.hid hz
            have fin : ∀ a b c : Int, a = ((u + x.toNat % 128 * 128 ^ k : Nat) : Int) → b = ((k + 1 : Nat) : Int) → c = 0 → Ending.returned (.tuple #[.int .u64 a, .int .i64 b, .int .i64 c]) = .returned (decV l) := by
              intro a b c e1 e2 e3
              exact decV_of HG.out (by rw [decGo, if_neg H9.out, if_neg h128, if_neg HZ.out]; exact e1) (by rw [decGo, if_neg H9.out, if_neg h128, if_neg HZ.out]; exact e2) (by rw [decGo, if_neg H9.out, if_neg h128, if_neg HZ.out]; exact e3)
            have FIN := Lib.hid fin
            clear fin hz
            have hz2 : ((x.toNat : Int) == 0) = false ∨ ((x.toNat : Int) == 0) = true ∧ ¬ (0 : Int) < (k : Int) := by
              by_cases h0 : x.toNat = 0
              · right; exact ⟨by rw [beq_iff_eq]; omega, by have := HZ.out; omega⟩
              · left; rw [beq_eq_false_iff_ne]; omega
            by_cases hk9' : k = 9
            · have b9 : ((k : Int) == 9) = true := by rw [beq_iff_eq]; omega
              have b1 : ¬ (1 : Int) < (x.toNat : Int) := by have := H9.out; omega
              have HK := Lib.hid hk9'; clear hk9'
              rcases hz2 with hz2 | ⟨hz2, hz3⟩
              all_goals
                go_wp2
                go_ret3
                exact ⟨FIN.out _ _ _ HO.out (by omega) rfl, rfl⟩
            · have b9 : ((k : Int) == 9) = false := by rw [beq_eq_false_iff_ne]; omega
              rcases hz2 with hz2 | ⟨hz2, hz3⟩
              all_goals
                go_wp2
                go_ret3
                exact ⟨FIN.out _ _ _ HO.out (by omega) rfl, rfl⟩
    · go_wp2
      go_ret3
      have hk2 : l.drop k = [] := List.drop_eq_nil_of_le (by have := H1.out; omega)
      have hd := HT.out
      rw [hk2] at hd
      exact ⟨decV_of hd (by rw [decGo]; rfl) (by rw [decGo]; rfl) (by rw [decGo]; rfl), rfl⟩
end Go.Proofs.YtffhejaeliphcaaDoor

namespace Go.Proofs.YtffhejaeliphcaaDoor
open Go.RowKit
set_option linter.unusedVariables false

set_option maxHeartbeats 800000 in
theorem rdec_any (a1 : Option Addr) (n1 c1 : Nat) (l : List UInt8) (w : World) (r1 : RowAt w a1 n1 c1 1 (l.map B)) :
    Calls Tryd.prog 47 #[.slice a1 n1 c1] w fun e w' => e = .returned (decV l) ∧ w = w' := by
  have e1 : l.length = n1 := by simpa using r1.len
  have H1 := Lib.hid e1; clear e1
  have m1 := r1.2.2.1
  have m2 := r1.2.1
  unfold maxLen at m1
  go_enter Tryd.func47, Tryd.ntmps47
  go_wp2
  go_loop [5] (fun iv => ∃ k : Nat, iv = .int .i64 (k : Int) ∧ k ≤ n1 ∧ k ≤ 9 ∧ Hid (dec l = decGo (l.drop k) k (val (l.take k)))) (fun iv => n1 - (intOf iv).toNat)
  case atStart => exact ⟨0, rfl, Nat.zero_le _, Nat.zero_le _, Lib.hid rfl⟩
  case round =>
    obtain ⟨k, rfl, hk, hk9, HT⟩ := hrel
    by_cases hlt : k < n1
    · obtain ⟨b1, o1, x, rfl, hx1, hc1⟩ := r1.byte k hlt
      have hx := x.toNat_lt
      have HX1 := Lib.hid hx1; clear hx1
      have hlt' : (k : Int) < (n1 : Int) := by omega
      by_cases hgo : k < 9 ∧ 128 ≤ x.toNat
      · obtain ⟨g1, g2⟩ := hgo
        have g1' : (k : Int) < 9 := by omega
        have g2' : (128 : Int) ≤ (x.toNat : Int) := by omega
        go_wp2
        go_round
        case rel => exact ⟨k + 1, by go_num, by omega, by omega, Lib.hid (dec_step HX1.out g1 g2 HT.out)⟩
        case measure => first | (simp [intOf]; omega) | simp [intOf]
      · have hne : ((k : Int) == (n1 : Int)) = false := by rw [beq_eq_false_iff_ne]; omega
        by_cases hw : k = 9 ∧ 1 < x.toNat
        · obtain ⟨rfl, hw2⟩ := hw
          have g1' : ¬ (9 : Int) < 9 := by omega
          have g2' : (1 : Int) < (x.toNat : Int) := by omega
          go_wp2
          go_ret3
          exact ⟨decV_of (dec_wide HX1.out hw2 HT.out) rfl rfl rfl, rfl⟩
        · have HW := Lib.hid hw; clear hw
          have h128 : x.toNat < 128 := by have := HW.out; omega
          have hgt : k < 9 ∧ ((k : Int) < 9) ∧ ¬ (128 : Int) ≤ (x.toNat : Int) ∧ ((k : Int) == 9) = false ∨ k = 9 := by
            by_cases h : k = 9
            · exact .inr h
            · left; exact ⟨by omega, by omega, by omega, by rw [beq_eq_false_iff_ne]; omega⟩
          clear hgo
          by_cases hz : x.toNat = 0 ∧ 0 < k
          · have z1 : ((x.toNat : Int) == 0) = true := by rw [beq_iff_eq]; omega
            have z2 : (0 : Int) < (k : Int) := by omega
            have HL := Lib.hid (dec_long HX1.out hz.2 hz.1 HT.out)
            have z3 : ¬ (1 : Int) < (x.toNat : Int) := by omega
            clear hz
            rcases hgt with ⟨k1, k2, k3, k4⟩ | rfl
            all_goals
              go_wp2
              go_ret3
              exact ⟨decV_of HL.out rfl rfl rfl, rfl⟩
          · have HD := Lib.hid (dec_done HX1.out HW.out h128 hz HT.out)
            have hz2 : ¬ (0 : Int) < (k : Int) ∨ ((x.toNat : Int) == 0) = false ∧ (0 : Int) < (k : Int) := by
              by_cases h0 : 0 < k
              · right; exact ⟨by rw [beq_eq_false_iff_ne]; omega, by omega⟩
              · left; omega
            obtain ⟨K, hK⟩ : ∃ K, K = k + 1 := ⟨_, rfl⟩
            rw [← hK] at HD
            have HV : Hid (val (l.take K) < 18446744073709551616) := Lib.hid (by have := (dec_bd l).1; rw [HD.out] at this; exact this)
            have hK1 : 1 ≤ K := by omega
            have hK2 : K ≤ n1 := by omega
            have hK3 : K ≤ 10 := by omega
            have HK := Lib.hid hK; clear hK
            clear hz
            rcases hgt with ⟨k1, k2, k3, k4⟩ | rfl
            all_goals rcases hz2 with hz2 | ⟨hz2, hz3⟩
            all_goals first | (exfalso; omega) | skip
            all_goals
              try have z3 : ¬ (1 : Int) < (x.toNat : Int) := by have := HW.out; omega
              clear HW
              go_wp2
              go_loop [6, 7] (fun uv iv => ∃ (m : Nat) (u : Int), iv = .int .i64 ((m : Int) - 1) ∧ uv = .int .u64 u ∧ 0 ≤ u ∧ m ≤ K ∧ Hid (u = (val ((l.take K).drop m) : Nat))) (fun _ iv => (intOf iv + 1).toNat)
              case atStart => exact ⟨K, 0, vint (by have := HK.out; omega), rfl, by omega, Nat.le_refl _, Lib.hid (by rw [List.drop_eq_nil_of_le (by simp; omega)]; rfl)⟩
              case round =>
                obtain ⟨m, u, rfl, rfl, hu0, hm, HU⟩ := hrel
                by_cases hm0 : m = 0
                · subst hm0
                  go_wp2
                  go_ret3
                  exact ⟨decV_of HD.out (by have := HU.out; rw [this]; rfl) (by have := HK.out; simp; omega) rfl, rfl⟩
                · obtain ⟨j, hj⟩ : ∃ j, m = j + 1 := ⟨m - 1, by omega⟩
                  subst hj
                  obtain ⟨b2, o2, y, ha, hy1, hy2⟩ := r1.byte j (by omega)
                  obtain ⟨rfl, rfl⟩ : b1 = b2 ∧ o1 = o2 := by simpa using ha
                  clear ha
                  have hyd : (l.take K)[j]? = some y := by rw [List.getElem?_take, if_pos (by omega)]; exact hy1
                  have hv : val ((l.take K).drop j) = y.toNat % 128 + 128 * val ((l.take K).drop (j + 1)) := by rw [drop_at hyd]; rfl
                  have hle := val_drop_le (l.take K) j
                  have hlt2 : u * 128 + (y.toNat : Int) % 128 < 18446744073709551616 := by have := HU.out; have := HV.out; omega
                  have HVV := Lib.hid hv
                  clear hv hle hyd hy1
                  have hylt := y.toNat_lt
                  go_wp2
                  go_round
                  case rel => exact ⟨j, _, vint (by omega), rfl, by omega, by omega, Lib.hid (by have := HU.out; have := HVV.out; omega)⟩
                  case measure => first | (simp [intOf]; omega) | simp [intOf]
    · obtain rfl : k = n1 := by omega
      have hne : ((k : Int) == (k : Int)) = true := by simp
      go_wp2
      go_ret3
      exact ⟨decV_of (dec_end (by have := H1.out; omega) HT.out) rfl rfl rfl, rfl⟩
end Go.Proofs.YtffhejaeliphcaaDoor
