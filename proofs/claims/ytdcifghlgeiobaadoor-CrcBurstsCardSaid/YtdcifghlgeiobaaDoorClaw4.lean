/-
  The walks of the reference's Turn and of CrcBursts. Conditions: arguments read as their types say, within the form's own reach; the table of nibbles holds what the text lays.
-/
import Derived.Test.YtdcifghlgeiobaaDoorCturn
import Derived.Test.YtdcifghlgeiobaaDoorClaw3
namespace Go.Proofs.YtdcifghlgeiobaaDoor
open Go.RowKit
set_option linter.unusedVariables false

set_option maxHeartbeats 1600000 in
theorem turn_any (a1 : Option Addr) (n1 c1 : Nat) (l : List UInt8) (t p : Nat) (w : World) (hn : n1 ≤ 281474976710656) (ht : t ≤ 1152921504606846976) (hp : p < 4294967296) (r1 : RowAt w a1 n1 c1 1 (l.map B)) :
    Calls Tryd.prog 22 #[.slice a1 n1 c1, .int .i64 (t : Int), .int .u32 (p : Int)] w (GivesB 5 w (turn l t p 32)) := by
  have e1 : l.length = n1 := by simpa using r1.len
  have H1 := Lib.hid e1; clear e1
  go_enter Tryd.func22, Tryd.ntmps22
  go_wp2_with (at_make; refine wpList_mkn rfl _ _ 22 rfl slB rfl w.heap.size _ _ _ _ n1 rfl rfl rfl rfl (by omega) (by unfold maxLen; omega) (Nat.le_refl _) fun w1 hown hg => ?_)
  have hb1 : Below w.heap.size w w1 := (Below.refl _ _).grown hg (Nat.le_refl _) (fun k hk => by cases hk)
  go_loopw [8, 16] (fun _ iv wr => ∃ k : Nat, iv = .int .i64 (k : Int) ∧ k ≤ n1 ∧ wr.ownsRow w.heap.size 5 1 (.slice (some ⟨w.heap.size, 0, none⟩) n1 n1) n1 ((l.take k).map B ++ List.replicate (n1 - k) (.int .u8 0)) ∧ Below w.heap.size w wr) (fun _ iv _ => n1 - (intOf iv).toNat)
  case atStart => exact ⟨0, rfl, Nat.zero_le _, by simpa using hown, hb1⟩
  case round =>
    obtain ⟨k, rfl, hk, ho, hb⟩ := hrel
    clear hown hg hb1
    by_cases hlt : k < n1
    · obtain ⟨b1, o1, x1, rfl, hx1, hc1⟩ := (r1.below hb).byte k hlt
      have HX1 := Lib.hid hx1; clear hx1
      obtain ⟨⟨v0, _, hc2⟩, hf2, hst⟩ := own_cell ho k hlt
      have hst1 := (hst (.int .u8 (x1.toNat : Int))).1
      rw [copy_set HX1.out hlt] at hst1
      have hb2 := hb.setCell (p := ⟨w.heap.size, k, none⟩) (Nat.le_refl _) (.int .u8 (x1.toNat : Int))
      clear hst
      go_wp2
      go_roundw
      case rel => exact ⟨k + 1, by go_num, by omega, hst1, hb2⟩
      case measure => first | (simp [intOf]; omega) | simp [intOf]
    · have ho1 : wr.ownsRow w.heap.size 5 1 (.slice (some ⟨w.heap.size, 0, none⟩) n1 n1) n1 ((turn l t p 0).map B) := by
        obtain rfl : k = n1 := by omega
        rwa [Nat.sub_self, List.replicate_zero, List.append_nil, List.take_of_length_le (by have := H1.out; omega)] at ho
      have hlt' : ¬ (k : Int) < (n1 : Int) := by omega
      clear ho
      go_wp2_with fail
      go_loopw [9, 10] (fun iv _ wr => ∃ k : Nat, iv = .int .i64 (k : Int) ∧ k ≤ 32 ∧ wr.ownsRow w.heap.size 5 1 (.slice (some ⟨w.heap.size, 0, none⟩) n1 n1) n1 ((turn l t p k).map B) ∧ Below w.heap.size w wr) (fun iv _ _ => 32 - (intOf iv).toNat)
      case atStart => exact ⟨0, rfl, Nat.zero_le _, ho1, hb⟩
      case round =>
        clear ho1 hb hlt hlt' hk
        obtain ⟨i, rfl, hi, ho, hb⟩ := hrel
        by_cases hlt : i < 32
        · obtain ⟨q, hq⟩ : ∃ q, p / 2 ^ i % 2 = q := ⟨_, rfl⟩
          have hand : bits .and .u32 ((p : Int) / 2 ^ i) 1 = (q : Int) := by
            have h1 := u32_and_nat (p / 2 ^ i) 1 (Nat.lt_of_le_of_lt (Nat.div_le_self _ _) hp) (by decide)
            rw [nat_mask1, hq] at h1
            rw [← h1]; rfl
          obtain ⟨j, hj⟩ : ∃ j, (t + i) / 8 = j := ⟨_, rfl⟩
          obtain ⟨m, hm⟩ : ∃ m, (t + i) % 8 = m := ⟨_, rfl⟩
          have hj2 : ((t : Int) + (i : Int)) / 8 = (j : Int) := by omega
          have hm2 : ((t : Int) + (i : Int)) % 8 = (m : Int) := by omega
          have hm8 : m < 8 := by omega
          have hj60 : j ≤ 1152921504606846976 := by omega
          by_cases h1 : q = 1
          · subst h1
            by_cases h2 : j < n1
            · have hjl : j < (turn l t p i).length := by rw [turn_length, H1.out]; exact h2
              have HT : Hid (turn l t p (i + 1) = (turn l t p i).set j (UInt8.ofNat (((turn l t p i).getD j 0).toNat ^^^ 2 ^ m))) := Lib.hid (by
                rw [turn, turn1, if_pos ⟨hq, by rw [turn_length, H1.out, hj]; exact h2⟩, hj, hm])
              obtain ⟨⟨v0, hv0, hc0⟩, hf0, hst⟩ := own_cell ho j h2
              rw [List.getElem?_map, Option.map_eq_some_iff] at hv0
              obtain ⟨x, hx, rfl⟩ := hv0
              have hgx : (turn l t p i).getD j 0 = x := by rw [List.getD_eq_getElem?_getD, hx]; rfl
              rw [hgx] at HT
              have hpow : (2 : Nat) ^ m < 256 := Nat.pow_lt_pow_right (n := 8) (by decide) hm8
              have hxor := u8_xor_nat x.toNat (2 ^ m) x.toNat_lt hpow
              obtain ⟨hst1, _⟩ := hst (.int .u8 ((UInt8.ofNat (x.toNat ^^^ 2 ^ m)).toNat : Int))
              have hst2 : (wr.setCell ⟨w.heap.size, j, none⟩ (.int .u8 ((UInt8.ofNat (x.toNat ^^^ 2 ^ m)).toNat : Int))).ownsRow w.heap.size 5 1 (.slice (some ⟨w.heap.size, 0, none⟩) n1 n1) n1 ((turn l t p (i + 1)).map B) := by
                rw [HT.out, List.map_set]; exact hst1
              have hbs := hb.setCell (p := ⟨w.heap.size, j, none⟩) (Nat.le_refl _) (.int .u8 ((UInt8.ofNat (x.toNat ^^^ 2 ^ m)).toNat : Int))
              have hxor2 : bits .xor .u8 (x.toNat : Int) ((2 : Int) ^ m % 256) = ((x.toNat ^^^ 2 ^ m : Nat) : Int) := by
                rw [← hxor]; congr 1
                have : ((2 : Int) ^ m) = ((2 ^ m : Nat) : Int) := by simp
                rw [this]; exact Int.emod_eq_of_lt (Int.natCast_nonneg _) (Int.ofNat_lt.2 hpow)
              have HXO := Lib.hid hxor2
              clear hxor hxor2
              have hux : (((UInt8.ofNat (x.toNat ^^^ 2 ^ m)).toNat : Nat) : Int) = ((x.toNat ^^^ 2 ^ m : Nat) : Int) := by
                simp only [UInt8.toNat_ofNat']; rw [Nat.mod_eq_of_lt (Nat.xor_lt_two_pow (n := 8) x.toNat_lt hpow)]
              rw [hux] at hst2 hbs
              generalize x.toNat ^^^ 2 ^ m = xr at *
              unfold B at hc0
              clear hst hst1 hx hgx hux hq hj hm hjl ho hb
              have hxl := x.toNat_lt
              go_wp2_with fail
              go_region
              go_wp2_with fail
              go_roundw
              case rel => rw [HXO.out]; exact ⟨i + 1, by go_num, by omega, own_still hst2 (Still.one _ 1), below_still hbs (Still.one _ 1)⟩
              case measure => first | (simp [intOf]; omega) | simp [intOf]
            · have HT : Hid (turn l t p (i + 1) = turn l t p i) := Lib.hid (by rw [turn, turn1, if_neg (fun h => h2 (by have := h.2; rw [turn_length, H1.out, hj] at this; exact this))])
              have hb1 : ((1 : Int) == 1) = true := rfl
              clear hq hj hm
              go_wp2_with fail
              go_roundw
              case rel => exact ⟨i + 1, by go_num, by omega, by rw [HT.out]; exact ho, hb⟩
              case measure => first | (simp [intOf]; omega) | simp [intOf]
          · have HT : Hid (turn l t p (i + 1) = turn l t p i) := Lib.hid (by rw [turn, turn1, if_neg (fun h => h1 (by rw [← hq]; exact h.1))])
            have hb1 : ((q : Int) == 1) = false := by rw [beq_eq_false_iff_ne]; omega
            clear hq hj hm
            go_wp2_with fail
            go_roundw
            case rel => exact ⟨i + 1, by go_num, by omega, by rw [HT.out]; exact ho, hb⟩
            case measure => first | (simp [intOf]; omega) | simp [intOf]
        · go_wp2_with fail
          go_ret
          obtain rfl : i = 32 := by omega
          have hl : (turn l t p 32).length = n1 := by rw [turn_length]; exact H1.out
          exact ⟨_, _, by rw [hl]; rfl, by rw [hl]; exact ho, hb⟩

set_option maxHeartbeats 800000 in
theorem bursts_walk (a : Option Addr) (n c : Nat) (l : List UInt8) (t p : Int) (w : World) (r : RowAt w a n c 1 (l.map B)) (hs : n * 1 ≤ 140737488351232) (t0 : -9223372036854775808 ≤ t) (t1 : t ≤ 9223372036854775807) (h0 : 0 ≤ p) (h1 : p < 4294967296) (ht : Tab w) :
    Calls Tryd.prog 7 #[.slice a n c, .int .i64 t, .int .u32 p] w fun e w' => e = .returned (.bool true) ∧ Below w.heap.size w w' := by
  obtain ⟨p, rfl⟩ := Int.eq_ofNat_of_zero_le h0
  have hpn : p < 4294967296 := by omega
  clear h0 h1
  have e1 : l.length = n := by simpa using r.len
  have HW := Lib.hid (closedB_whole l)
  have hsl := sumN_lt 0 l
  obtain ⟨x, hts⟩ : ∃ x, sumN 0 l = x := ⟨_, rfl⟩
  rw [hts] at hsl HW
  have HT := Lib.hid hts; clear hts
  obtain ⟨N, hN⟩ : ∃ N, N = n + 4 := ⟨_, rfl⟩
  have HL : Hid ((l ++ four x).length = N) := Lib.hid (by simp [e1, four, hN])
  have hN1 : N ≤ 140737488351236 := by omega
  have hN2 : 4 ≤ N := by omega
  have HL4 : Hid ((four x).length = 4) := Lib.hid rfl
  have H1 := Lib.hid e1; clear e1
  have HN := Lib.hid hN; clear hN
  have hin : 0 ≤ t ∧ t < 8 * (N : Int) ∨ t < 0 ∨ ¬ t < 0 ∧ 8 * (N : Int) ≤ t := by omega
  rcases hin with ⟨k1, k2⟩ | k1 | ⟨k1, k2⟩
  all_goals
    go_enter Tryd.func7, Tryd.ntmps7
    go_wp2_with fail
    (with_reducible refine (head_any _ ht).mono ?_)
    rintro e w1 ⟨rfl, hb1⟩
    have ht1 := ht.below hb1
    have r7 := r.below hb1
    go_wp2_with fail
    (with_reducible refine (sum_any _ _ _ l _ r7 ht1).mono ?_)
    rintro e w7 ⟨rfl, rfl⟩
    rw [HT.out]
    go_wp2_with fail
    (with_reducible refine (four_any x _ hsl).mono ?_)
    rintro e w7 ⟨a7, c7, rfl, hown7, hb2⟩
    have r8 := own_rowAt hown7
    have hb := below_next hb1 hb2
    rw [HL4.out] at r8 ⊢
    clear hown7 hb2 hb1 ht1 r7
    go_wp2_with fail
    (with_reducible refine (join_any _ _ _ l _ _ _ (four x) _ (by omega) (r.below hb) r8).mono ?_)
    rintro e w8 ⟨a9, c9, rfl, hown9, hb2⟩
    have r9 := own_rowAt hown9
    have hb4 := below_next hb hb2
    have ht4 := ht.below hb4
    rw [HL.out] at r9 ⊢
    clear hown9 hb2 hb r8
    go_wp2_with fail
    (with_reducible refine (closedB_any _ _ _ (l ++ four x) _ r9 ht4).mono ?_)
    rintro e w9 ⟨rfl, hb2⟩
    rw [HW.out]
    have r10 := r9.below hb2
    have hb := below_next hb4 hb2
    have ht5 := ht.below hb
    clear hb2 hb4 ht4 r9
    go_wp2_with fail
  · obtain ⟨t, rfl⟩ := Int.eq_ofNat_of_zero_le k1
    (with_reducible refine (turn_any _ _ _ (l ++ four x) t p _ (by omega) (by omega) hpn r10).mono ?_)
    rintro e w10 ⟨a11, c11, rfl, hown11, hb2⟩
    have r11 := own_rowAt hown11
    have r12 := r10.below hb2
    have hb4 := below_next hb hb2
    have ht6 := ht.below hb4
    have HTL : Hid ((turn (l ++ four x) t p 32).length = N) := Lib.hid (by rw [turn_length]; exact HL.out)
    have HB : Hid ((closedB (turn (l ++ four x) t p 32) == (turn (l ++ four x) t p 32 == l ++ four x)) = true) := Lib.hid (by
      rw [beq_iff_eq, Bool.eq_iff_iff, closedB_iff _ (by rw [HTL.out]; omega), beq_iff_eq, ← turn_told (l ++ four x) t p (by rw [HL.out]; omega) hpn]
      rw [← (closedB_iff (l ++ four x) (by rw [HL.out]; omega)).1 HW.out])
    rw [HTL.out] at r11 ⊢
    clear hown11 hb2 hb r10
    go_wp2_with fail
    (with_reducible refine (closedB_any _ _ _ _ _ r11 ht6).mono ?_)
    rintro e w12 ⟨rfl, hb2⟩
    have r13 := r11.below hb2
    have r14 := r12.below hb2
    have hb := below_next hb4 hb2
    clear hb2 hb4 r11 r12
    go_wp2_with fail
    (with_reducible refine (same_any _ _ _ _ _ _ _ _ _ r13 r14).mono ?_)
    rintro e w13 ⟨rfl, hst⟩
    go_wp2_with fail
    go_ret
    exact ⟨ret_bool HB.out, below_still hb hst⟩
  · go_ret
    exact ⟨rfl, hb⟩
  · go_ret
    exact ⟨rfl, hb⟩
end Go.Proofs.YtdcifghlgeiobaaDoor
