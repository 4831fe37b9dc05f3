/-
  The walk of Last over whole numbers, and of IndexLast. Condition: the slice reads as a list of whole numbers.
-/
import Derived.Test.YtgdepgfipocdcaaBytes
import Derived.Laws.DeepNot64
namespace Go.Proofs.Ytgdepgfipocdcaa
open Go.RowKit
set_option linter.unusedVariables false

def IV (x : Int) : Value := .int .i64 x

theorem three_in (x : Int) (w : World) : Calls Try.prog 11 #[.int .i64 x] w fun e w' => e = .returned (.bool (decide (x ≤ 3))) ∧ w = w' := by
  go_enter Try.func11, Try.ntmps11
  go_wp2_with fail
  go_ret
  exact ⟨rfl, rfl⟩

set_option maxHeartbeats 400000 in
theorem three_last (a : Option Addr) (n c : Nat) (xs : List Int) (w : World) (r : RowAt w a n c 1 (xs.map IV)) (hn : n ≤ 140737488351232) :
    Calls Try.prog 10 #[.slice a n c, .func (.func 11) #[] #[]] w fun e w' => (∃ l : Nat, e = .returned (.int .i64 ((l : Int) - 1)) ∧ l ≤ n ∧ (∀ x, xs[l]? = some x → 3 < x) ∧ (∀ x, 0 < l → xs[l - 1]? = some x → x ≤ 3)) ∧ w = w' := by
  have hxl : xs.length = n := by simpa using r.len
  go_enter Try.func10, Try.ntmps10
  go_wp2_with fail
  go_loopw [5, 6] (fun lv hv wr => ∃ l h : Nat, lv = .int .i64 ((l : Int) - 1) ∧ hv = .int .i64 (h : Int) ∧ l ≤ h ∧ h ≤ n ∧ (∀ x, xs[h]? = some x → 3 < x) ∧ (∀ x, 0 < l → xs[l - 1]? = some x → x ≤ 3) ∧ w = wr) (fun lv hv _ => (intOf hv).toNat - ((intOf lv) + 1).toNat)
  case atStart => exact ⟨0, n, rfl, rfl, Nat.zero_le _, Nat.le_refl _, (fun x hx => by rw [List.getElem?_eq_none (by omega)] at hx; cases hx), (fun x h0 => by omega), rfl⟩
  case round =>
    obtain ⟨l, h, rfl, rfl, hlh, hhn, hH, hL, rfl⟩ := hrel
    by_cases hlt : l < h
    · obtain ⟨m, hm⟩ : ∃ m : Nat, (l + h - 1) / 2 = m := ⟨_, rfl⟩
      have hm1 : l ≤ m := by omega
      have hm2 : m < h := by omega
      have hmi : ((l : Int) - 1 + (h : Int)) / 2 = (m : Int) := by omega
      have hgt : (1 : Int) < (h : Int) - ((l : Int) - 1) := by omega
      obtain ⟨b, off, x, rfl, hx, hcell⟩ := r.elem m (by omega)
      unfold IV at hcell
      by_cases hp : x ≤ 3
      all_goals
        have hd : decide (x ≤ 3) = decide (x ≤ 3) := rfl
        go_wp2_with (go_at_call 11; refine (three_in x _ ).mono ?_; rintro e w2 ⟨rfl, rfl⟩)
      · go_roundw
        case rel => exact ⟨m + 1, h, by go_num, rfl, by omega, hhn, hH, (fun y _ hy => by rw [Nat.add_sub_cancel, hx] at hy; cases hy; omega), trivial⟩
        case measure => simp [intOf]; omega
      · go_roundw
        case rel => exact ⟨l, m, rfl, rfl, hm1, by omega, (fun y hy => by rw [hx] at hy; cases hy; omega), hL, trivial⟩
        case measure => simp [intOf]; omega
    · obtain rfl : l = h := by omega
      have hgt : ¬ (1 : Int) < (l : Int) - ((l : Int) - 1) := by omega
      go_wp2_with fail
      go_ret
      exact ⟨⟨l, rfl, hhn, hH, hL⟩, rfl⟩

theorem upTo_in (x : Int) (t : Int) (b0 : Nat) (w : World) (hc0 : w.cell? ⟨b0, 0, none⟩ = some (.int .i64 t)) : Calls Try.prog 12 #[.int .i64 x, .pointer (some ⟨b0, 0, none⟩)] w fun e w' => e = .returned (.bool (decide (x ≤ t))) ∧ w = w' := by
  go_enter Try.func12, Try.ntmps12
  go_wp2_with fail
  go_ret
  exact ⟨rfl, rfl⟩

set_option maxHeartbeats 400000 in
theorem upTo_last (t : Int) (b0 : Nat) (a : Option Addr) (n c : Nat) (xs : List Int) (w : World) (hc0 : w.cell? ⟨b0, 0, none⟩ = some (.int .i64 t)) (r : RowAt w a n c 1 (xs.map IV)) (hn : n ≤ 140737488351232) :
    Calls Try.prog 10 #[.slice a n c, .func (.func 12) #[] #[.pointer (some ⟨b0, 0, none⟩)]] w fun e w' => (∃ l : Nat, e = .returned (.int .i64 ((l : Int) - 1)) ∧ l ≤ n ∧ (∀ x, xs[l]? = some x → t < x) ∧ (∀ x, 0 < l → xs[l - 1]? = some x → x ≤ t)) ∧ w = w' := by
  have hxl : xs.length = n := by simpa using r.len
  go_enter Try.func10, Try.ntmps10
  go_wp2_with fail
  go_loopw [5, 6] (fun lv hv wr => ∃ l h : Nat, lv = .int .i64 ((l : Int) - 1) ∧ hv = .int .i64 (h : Int) ∧ l ≤ h ∧ h ≤ n ∧ (∀ x, xs[h]? = some x → t < x) ∧ (∀ x, 0 < l → xs[l - 1]? = some x → x ≤ t) ∧ w = wr) (fun lv hv _ => (intOf hv).toNat - ((intOf lv) + 1).toNat)
  case atStart => exact ⟨0, n, rfl, rfl, Nat.zero_le _, Nat.le_refl _, (fun x hx => by rw [List.getElem?_eq_none (by omega)] at hx; cases hx), (fun x h0 => by omega), rfl⟩
  case round =>
    obtain ⟨l, h, rfl, rfl, hlh, hhn, hH, hL, rfl⟩ := hrel
    by_cases hlt : l < h
    · obtain ⟨m, hm⟩ : ∃ m : Nat, (l + h - 1) / 2 = m := ⟨_, rfl⟩
      have hm1 : l ≤ m := by omega
      have hm2 : m < h := by omega
      have hmi : ((l : Int) - 1 + (h : Int)) / 2 = (m : Int) := by omega
      have hgt : (1 : Int) < (h : Int) - ((l : Int) - 1) := by omega
      obtain ⟨b, off, x, rfl, hx, hcell⟩ := r.elem m (by omega)
      unfold IV at hcell
      by_cases hp : x ≤ t
      all_goals
        have hd : decide (x ≤ t) = decide (x ≤ t) := rfl
        go_wp2_with (go_at_call 12; refine (upTo_in x t b0 _ hc0).mono ?_; rintro e w2 ⟨rfl, rfl⟩)
      · go_roundw
        case rel => exact ⟨m + 1, h, by go_num, rfl, by omega, hhn, hH, (fun y _ hy => by rw [Nat.add_sub_cancel, hx] at hy; cases hy; omega), trivial⟩
        case measure => simp [intOf]; omega
      · go_roundw
        case rel => exact ⟨l, m, rfl, rfl, hm1, by omega, (fun y hy => by rw [hx] at hy; cases hy; omega), hL, trivial⟩
        case measure => simp [intOf]; omega
    · obtain rfl : l = h := by omega
      have hgt : ¬ (1 : Int) < (l : Int) - ((l : Int) - 1) := by omega
      go_wp2_with fail
      go_ret
      exact ⟨⟨l, rfl, hhn, hH, hL⟩, rfl⟩
end Go.Proofs.Ytgdepgfipocdcaa
