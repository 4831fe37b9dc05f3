/-
  The walk of the reference's Turn. Conditions: the argument reads as bytes; the place is below 2^60.
-/
import Derived.Test.YtffhejaeliphcaaDoorMCc
import Derived.Test.YtffhejaeliphcaaDoorMCq
namespace Go.Proofs.YtffhejaeliphcaaDoor
open Go.RowKit
set_option linter.unusedVariables false

set_option maxHeartbeats 1600000 in
theorem turn_any (a1 : Option Addr) (n1 c1 : Nat) (l : List UInt8) (t p : Nat) (w : World) (hn : n1 ≤ 281474976710656) (ht : t ≤ 1152921504606846976) (hp : p < 4294967296) (r1 : RowAt w a1 n1 c1 1 (l.map B)) :
    Calls Tryd.prog 21 #[.slice a1 n1 c1, .int .i64 (t : Int), .int .u32 (p : Int)] w (GivesB 5 w (turn l t p 32)) := by
  have e1 : l.length = n1 := by simpa using r1.len
  have H1 := Lib.hid e1; clear e1
  go_enter Tryd.func21, Tryd.ntmps21
  go_wp2_with (at_make; refine wpList_mkn rfl _ _ 22 rfl slB rfl w.heap.size _ _ _ _ n1 rfl rfl rfl rfl (by omega) (by unfold maxLen; omega) (Nat.le_refl _) fun w1 hown hg => ?_)
  have hb1 : Below w.heap.size w w1 := (Below.refl _ _).grown hg (Nat.le_refl _) (fun k hk => by cases hk)
  go_loopw [8, 16] (fun _ iv wr => ∃ k : Nat, iv = .int .i64 (k : Int) ∧ k ≤ n1 ∧ wr.ownsRow w.heap.size 5 1 (.slice (some ⟨w.heap.size, 0, none⟩) n1 n1) n1 ((l.take k).map B ++ List.replicate (n1 - k) (.int .u8 0)) ∧ Below w.heap.size w wr) (fun _ iv _ => n1 - (intOf iv).toNat)
  case atStart => exact ⟨0, rfl, Nat.zero_le _, by simpa using hown, hb1⟩
  case round =>
    obtain ⟨k, rfl, hk, ho, hb⟩ := hrel
    clear hown hg hb1
    by_cases hlt : k < n1
    · obtain ⟨b1, o1, x1, rfl, hx1, hc1⟩ := (r1.below hb).byte k hlt
      have HX1 := Lib.hid hx1; clear hx1
      obtain ⟨⟨v0, _, hc2⟩, hf2, hst⟩ := own_cell ho k hlt
      have hst1 := (hst (.int .u8 (x1.toNat : Int))).1
      rw [copy_set HX1.out hlt] at hst1
      have hb2 := hb.setCell (p := ⟨w.heap.size, k, none⟩) (Nat.le_refl _) (.int .u8 (x1.toNat : Int))
      clear hst
      go_wp2
      go_roundw
      case rel => exact ⟨k + 1, by go_num, by omega, hst1, hb2⟩
      case measure => first | (simp [intOf]; omega) | simp [intOf]
    · have ho1 : wr.ownsRow w.heap.size 5 1 (.slice (some ⟨w.heap.size, 0, none⟩) n1 n1) n1 ((turn l t p 0).map B) := by
        obtain rfl : k = n1 := by omega
        rwa [Nat.sub_self, List.replicate_zero, List.append_nil, List.take_of_length_le (by have := H1.out; omega)] at ho
      have hlt' : ¬ (k : Int) < (n1 : Int) := by omega
      clear ho
      go_wp2_with fail
      go_loopw [9, 10] (fun iv _ wr => ∃ k : Nat, iv = .int .i64 (k : Int) ∧ k ≤ 32 ∧ wr.ownsRow w.heap.size 5 1 (.slice (some ⟨w.heap.size, 0, none⟩) n1 n1) n1 ((turn l t p k).map B) ∧ Below w.heap.size w wr) (fun iv _ _ => 32 - (intOf iv).toNat)
      case atStart => exact ⟨0, rfl, Nat.zero_le _, ho1, hb⟩
      case round =>
        clear ho1 hb hlt hlt' hk
        obtain ⟨i, rfl, hi, ho, hb⟩ := hrel
        by_cases hlt : i < 32
        · obtain ⟨q, hq⟩ : ∃ q, p / 2 ^ i % 2 = q := ⟨_, rfl⟩
          have hand : bits .and .u32 ((p : Int) / 2 ^ i) 1 = (q : Int) := by
            have h1 := u32_and_nat (p / 2 ^ i) 1 (Nat.lt_of_le_of_lt (Nat.div_le_self _ _) hp) (by decide)
            rw [nat_mask1, hq] at h1
            rw [← h1]; rfl
          obtain ⟨j, hj⟩ : ∃ j, (t + i) / 8 = j := ⟨_, rfl⟩
          obtain ⟨m, hm⟩ : ∃ m, (t + i) % 8 = m := ⟨_, rfl⟩
          have hj2 : ((t : Int) + (i : Int)) / 8 = (j : Int) := by omega
          have hm2 : ((t : Int) + (i : Int)) % 8 = (m : Int) := by omega
          have hm8 : m < 8 := by omega
          have hj60 : j ≤ 1152921504606846976 := by omega
          by_cases h1 : q = 1
          · subst h1
            by_cases h2 : j < n1
            · have hjl : j < (turn l t p i).length := by rw [turn_length, H1.out]; exact h2
              have HT : Hid (turn l t p (i + 1) = (turn l t p i).set j (UInt8.ofNat (((turn l t p i).getD j 0).toNat ^^^ 2 ^ m))) := Lib.hid (by
                rw [turn, turn1, if_pos ⟨hq, by rw [turn_length, H1.out, hj]; exact h2⟩, hj, hm])
              obtain ⟨⟨v0, hv0, hc0⟩, hf0, hst⟩ := own_cell ho j h2
              rw [List.getElem?_map, Option.map_eq_some_iff] at hv0
              obtain ⟨x, hx, rfl⟩ := hv0
              have hgx : (turn l t p i).getD j 0 = x := by rw [List.getD_eq_getElem?_getD, hx]; rfl
              rw [hgx] at HT
              have hpow : (2 : Nat) ^ m < 256 := Nat.pow_lt_pow_right (n := 8) (by decide) hm8
              have hxor := u8_xor_nat x.toNat (2 ^ m) x.toNat_lt hpow
              obtain ⟨hst1, _⟩ := hst (.int .u8 ((UInt8.ofNat (x.toNat ^^^ 2 ^ m)).toNat : Int))
              have hst2 : (wr.setCell ⟨w.heap.size, j, none⟩ (.int .u8 ((UInt8.ofNat (x.toNat ^^^ 2 ^ m)).toNat : Int))).ownsRow w.heap.size 5 1 (.slice (some ⟨w.heap.size, 0, none⟩) n1 n1) n1 ((turn l t p (i + 1)).map B) := by
                rw [HT.out, List.map_set]; exact hst1
              have hbs := hb.setCell (p := ⟨w.heap.size, j, none⟩) (Nat.le_refl _) (.int .u8 ((UInt8.ofNat (x.toNat ^^^ 2 ^ m)).toNat : Int))
              have hxor2 : bits .xor .u8 (x.toNat : Int) ((2 : Int) ^ m % 256) = ((x.toNat ^^^ 2 ^ m : Nat) : Int) := by
                rw [← hxor]; congr 1
                have : ((2 : Int) ^ m) = ((2 ^ m : Nat) : Int) := by simp
                rw [this]; exact Int.emod_eq_of_lt (Int.natCast_nonneg _) (Int.ofNat_lt.2 hpow)
              have HXO := Lib.hid hxor2
              clear hxor hxor2
              have hux : (((UInt8.ofNat (x.toNat ^^^ 2 ^ m)).toNat : Nat) : Int) = ((x.toNat ^^^ 2 ^ m : Nat) : Int) := by
                simp only [UInt8.toNat_ofNat']; rw [Nat.mod_eq_of_lt (Nat.xor_lt_two_pow (n := 8) x.toNat_lt hpow)]
              rw [hux] at hst2 hbs
              generalize x.toNat ^^^ 2 ^ m = xr at *
              unfold B at hc0
              clear hst hst1 hx hgx hux hq hj hm hjl ho hb
              have hxl := x.toNat_lt
              go_wp2_with fail
              go_region
              go_wp2_with fail
              go_roundw
              case rel => rw [HXO.out]; exact ⟨i + 1, by go_num, by omega, own_still hst2 (Still.one _ 1), below_still hbs (Still.one _ 1)⟩
              case measure => first | (simp [intOf]; omega) | simp [intOf]
            · have HT : Hid (turn l t p (i + 1) = turn l t p i) := Lib.hid (by rw [turn, turn1, if_neg (fun h => h2 (by have := h.2; rw [turn_length, H1.out, hj] at this; exact this))])
              have hb1 : ((1 : Int) == 1) = true := rfl
              clear hq hj hm
              go_wp2_with fail
              go_roundw
              case rel => exact ⟨i + 1, by go_num, by omega, by rw [HT.out]; exact ho, hb⟩
              case measure => first | (simp [intOf]; omega) | simp [intOf]
          · have HT : Hid (turn l t p (i + 1) = turn l t p i) := Lib.hid (by rw [turn, turn1, if_neg (fun h => h1 (by rw [← hq]; exact h.1))])
            have hb1 : ((q : Int) == 1) = false := by rw [beq_eq_false_iff_ne]; omega
            clear hq hj hm
            go_wp2_with fail
            go_roundw
            case rel => exact ⟨i + 1, by go_num, by omega, by rw [HT.out]; exact ho, hb⟩
            case measure => first | (simp [intOf]; omega) | simp [intOf]
        · go_wp2_with fail
          go_ret
          obtain rfl : i = 32 := by omega
          have hl : (turn l t p 32).length = n1 := by rw [turn_length]; exact H1.out
          exact ⟨_, _, by rw [hl]; rfl, by rw [hl]; exact ho, hb⟩
end Go.Proofs.YtffhejaeliphcaaDoor
