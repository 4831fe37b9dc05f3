/-
  The walks of the reference's Valid and Same, of copyOf and of Seek over marks. Condition: the slices read as lists of marks.
-/
import Derived.Test.YtgdepgfipocdcaaImark
import Derived.Laws.DeepNot64
namespace Go.Proofs.Ytgdepgfipocdcaa
open Go.RowKit
set_option linter.unusedVariables false

theorem slM : SlTy Try.prog 26 31 2 16 (.agg #[.int .i64 0, .int .i64 0]) := slTy_mk Try.underlying26 (by kernel_rfl) rfl (by decide) (by decide)

theorem M_one (ms : List Mk) : ∀ u ∈ ms.flatMap Mk.cells, u.oneCell' = true := by
  intro u hu
  obtain ⟨m, _, hm⟩ := List.mem_flatMap.1 hu
  simp [Mk.cells] at hm
  rcases hm with rfl | rfl <;> rfl

theorem M_len (ms : List Mk) : (ms.flatMap Mk.cells).length = ms.length * 2 := flat_length Mk.cells (fun _ => rfl) ms

/-- The word of a contract that gives marks in new memory. -/
def GivesM (eM : TypeId) (w : World) (ms : List Mk) (e : Ending) (w' : World) : Prop :=
  ∃ a cap, e = .returned (.slice a ms.length cap) ∧ w'.ownsRow w.heap.size eM 2 (.slice a ms.length cap) ms.length (ms.flatMap Mk.cells) ∧ Below w.heap.size w w'

theorem mcopy_any (a : Option Addr) (n c : Nat) (ms : List Mk) (w : World) (hn : n * 16 ≤ 140737488355328) (r : RowAt w a n c 2 (ms.flatMap Mk.cells)) :
    Calls Try.prog 16 #[.slice a n c] w (GivesM 31 w ms) := by
  have hml : ms.length = n := by have := r.1; rw [M_len] at this; omega
  have H1 := Lib.hid hml; clear hml
  have ho1 := own_lit w [] 0 2 31 rfl (by decide)
  have hb1 := below_made w (.cells [].toArray 31)
  have hsz := hb1.size
  go_enter Try.func16, Try.ntmps16
  go_wp2_with (at_builtin; refine wpList_app rfl _ _ 26 rfl slM rfl ho1 rfl (r.below hb1) (M_one _) (by omega) (by simp) fun a2 c2 w2 hown2 hg2 => ?_)
  go_ret
  have hl := H1.out
  rw [List.nil_append, Nat.zero_add] at hown2
  exact ⟨a2, c2, by rw [hl]; rfl, by rw [hl]; exact hown2, hb1.grown hg2 hsz (own_block ho1)⟩

set_option maxHeartbeats 2000000 in
theorem rvalid_any (a : Option Addr) (n c : Nat) (ms : List Mk) (w : World) (r : RowAt w a n c 2 (ms.flatMap Mk.cells)) :
    Calls Try.prog 14 #[.slice a n c] w fun e w' => e = .returned (.bool (okN ms)) ∧ Still w w' := by
  have hml : ms.length = n := by have := r.1; rw [M_len] at this; omega
  by_cases h512 : n ≤ 512
  · have hd : ¬ (512 : Int) < (n : Int) := by omega
    have hok : Hid (okN ms = okFrom ⟨0, -1⟩ (ms.drop 0)) := Lib.hid (by unfold okN; rw [hml, List.drop_zero]; simp [h512])
    go_enter Try.func14, Try.ntmps14
    go_wp2_with fail
    go_loopw [9] (fun iv wr => ∃ (k : Nat) (p : Mk), iv = .int .i64 (k : Int) ∧ k ≤ n ∧ Hid (okN ms = okFrom p (ms.drop k)) ∧ Hid ((k = 0 → p = ⟨0, -1⟩) ∧ (0 < k → ms[k - 1]? = some p ∧ 1 ≤ p.s ∧ 0 ≤ p.a)) ∧ Still w wr) (fun iv _ => n - (intOf iv).toNat)
    case atStart => exact ⟨0, ⟨0, -1⟩, rfl, Nat.zero_le _, hok, Lib.hid ⟨fun _ => rfl, fun h => by omega⟩, Still.refl w⟩
    case round =>
      obtain ⟨k, p, rfl, hk, HO, HP, hst⟩ := hrel
      by_cases hlt : k < n
      · obtain ⟨b, off, m, rfl, hm, hc0, hc1⟩ := mk_at (r.still hst) k hlt
        have HA := Lib.hid (okFrom_at ms k p m hm)
        have HM := Lib.hid hm
        clear hm
        by_cases hgood : 1 ≤ m.s ∧ m.s ≤ 1099511627776 ∧ 0 ≤ m.a ∧ m.a ≤ 1099511627776
        · obtain ⟨g1, g2, g3, g4⟩ := hgood
          by_cases hk0 : k = 0
          · have hp := HP.out.1 hk0
            subst hp
            have hd1 : decide ((0 : Int) < (k : Int)) = false := by simp; omega
            have hd2 : decide (0 < k) = false := by simp; omega
            clear hk0
            go_wp2_with fail
            go_quiet (fail)
            go_wp2_with fail
            go_roundw
            case rel => exact ⟨k + 1, m, by go_num, by omega, Lib.hid (by rw [HO.out, HA.out, decide_eq_true (by show (0:Int) < m.s ∧ (-1 : Int) < m.a ∧ _ ∧ _; omega), Bool.true_and]), Lib.hid ⟨fun h => by omega, fun _ => ⟨HM.out, g1, g3⟩⟩, hst.trans (Still.one _ _)⟩
            case measure => simp [intOf]; omega
          · obtain ⟨j, hj⟩ : ∃ j, k = j + 1 := ⟨k - 1, by omega⟩
            obtain ⟨b', off', p', hba, hpj, hp0, hp1⟩ := mk_at (r.still hst) j (by omega)
            cases hba
            obtain ⟨q1, q2, q3⟩ := HP.out.2 (by omega)
            rw [hj, Nat.add_sub_cancel, hpj] at q1
            cases q1
            have hd1 : decide ((0 : Int) < (k : Int)) = true := by simp; omega
            have hd2 : decide (0 < k) = true := by simp; omega
            have hw1 : IntKind.i64.wrap ((k : Int) - 1) = (j : Int) := by rw [show (k : Int) - 1 = (j : Int) by omega]; exact IntWalk.i64_in _ (by have := r.2.1; have := r.2.2.1; unfold maxLen at this; omega)
            have hjn : j < n := by omega
            have hjn' : (j : Int) < (n : Int) := by omega
            have hlt' : (k : Int) < (n : Int) := by omega
            have HJ := Lib.hid hj
            clear hpj hk0 hj
            by_cases c1 : m.s ≤ p.s
            · go_wp2_with fail
              go_quiet (fail)
              go_wp2_with fail
              go_ret
              exact ⟨ret_bool (by rw [HO.out, HA.out, decide_eq_false (by omega)]; rfl), hst.trans (Still.one _ _)⟩
            · by_cases c2 : m.a ≤ p.a
              · go_wp2_with fail
                go_quiet (fail)
                go_wp2_with fail
                go_ret
                exact ⟨ret_bool (by rw [HO.out, HA.out, decide_eq_false (by omega)]; rfl), hst.trans (Still.one _ _)⟩
              · go_wp2_with fail
                go_quiet (fail)
                go_wp2_with fail
                go_roundw
                case rel => exact ⟨k + 1, m, by go_num, by omega, Lib.hid (by rw [HO.out, HA.out, decide_eq_true (by omega), Bool.true_and]), Lib.hid ⟨fun h => by omega, fun _ => ⟨HM.out, g1, g3⟩⟩, hst.trans (Still.one _ _)⟩
                case measure => simp [intOf]; omega
        · have hno : Hid (okN ms = false) := Lib.hid (by
            rw [HO.out, HA.out]
            have hq : ¬ (p.s < m.s ∧ p.a < m.a ∧ m.s ≤ 1099511627776 ∧ m.a ≤ 1099511627776) := by
              by_cases hk0 : k = 0
              · have hp := HP.out.1 hk0
                subst hp
                show ¬ ((0 : Int) < m.s ∧ (-1 : Int) < m.a ∧ m.s ≤ 1099511627776 ∧ m.a ≤ 1099511627776)
                omega
              · obtain ⟨q1, q2, q3⟩ := HP.out.2 (by omega)
                omega
            rw [decide_eq_false hq]; rfl)
          by_cases c1 : m.s < 1
          · go_wp2_with fail
            go_ret
            exact ⟨ret_bool hno.out.symm, hst⟩
          · by_cases c2 : 1099511627776 < m.s
            · go_wp2_with fail
              go_ret
              exact ⟨ret_bool hno.out.symm, hst⟩
            · by_cases c3 : m.a < 0
              · go_wp2_with fail
                go_ret
                exact ⟨ret_bool hno.out.symm, hst⟩
              · have c4 : 1099511627776 < m.a := by omega
                clear hgood
                go_wp2_with fail
                go_ret
                exact ⟨ret_bool hno.out.symm, hst⟩
      · obtain rfl : k = n := by omega
        have hlk : ¬ (k : Int) < (k : Int) := by omega
        go_wp2_with fail
        go_ret
        exact ⟨ret_bool (by rw [HO.out, List.drop_eq_nil_of_le (by omega)]; rfl), hst⟩
  · have hd : (512 : Int) < (n : Int) := by omega
    have hok : okN ms = false := by unfold okN; rw [hml]; simp [h512]
    go_enter Try.func14, Try.ntmps14
    go_wp2_with fail
    go_ret
    exact ⟨ret_bool hok.symm, Still.refl _⟩
end Go.Proofs.Ytgdepgfipocdcaa
