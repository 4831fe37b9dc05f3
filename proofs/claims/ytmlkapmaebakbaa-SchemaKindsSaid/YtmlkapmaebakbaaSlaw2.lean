/-
  The walk of SchemaKinds. Condition: the arguments read as their types say.
-/
import Derived.Test.YtmlkapmaebakbaaSchk
namespace Go.Proofs.Ytmlkapmaebakbaa
open Go.RowKit
set_option linter.unusedVariables false

/-- An event that holds a kind and an order's number alone. -/
def kEv (k : Int) : Value := .agg #[.int .i64 k, .int .i64 1, .int .i64 0, .int .i64 0, .int .i64 0, .int .i64 0, .int .i64 0, .string ⟨#[]⟩, .int .i64 0, .string ⟨#[]⟩]

theorem kindCells_at {L j : Nat} (h : j < L) : (kindCells L)[j]? = some (.int .i64 ((j : Int) + 1)) := by
  unfold kindCells; rw [List.getElem?_map, List.getElem?_range h]; rfl

theorem own_none {w w' : World} {base : Nat} {e : TypeId} {size : Nat} {v : Value} {n : Nat} {xs : List Value} (h : w.ownsRow base e size v n xs) (k : Below w.heap.size w w') : w'.ownsRow base e size v n xs := own_below h k

theorem rlast1 (w : World) : Calls Try.prog 14 #[.int .i64 1] w fun x w' => x = .returned (.int .i64 5) ∧ Below w.heap.size w w' := by
  go_enter Try.func14, Try.ntmps14
  go_wp2_with fail
  go_ret
  exact ⟨rfl, below_made _ _⟩
theorem rlast2 (w : World) : Calls Try.prog 14 #[.int .i64 2] w fun x w' => x = .returned (.int .i64 5) ∧ Below w.heap.size w w' := by
  go_enter Try.func14, Try.ntmps14
  go_wp2_with fail
  go_ret
  exact ⟨rfl, below_made _ _⟩
theorem rlast3 (w : World) : Calls Try.prog 14 #[.int .i64 3] w fun x w' => x = .returned (.int .i64 7) ∧ Below w.heap.size w w' := by
  go_enter Try.func14, Try.ntmps14
  go_wp2_with fail
  go_ret
  exact ⟨rfl, below_made _ _⟩
theorem rlast4 (w : World) : Calls Try.prog 14 #[.int .i64 4] w fun x w' => x = .returned (.int .i64 9) ∧ Below w.heap.size w w' := by
  go_enter Try.func14, Try.ntmps14
  go_wp2_with fail
  go_ret
  exact ⟨rfl, below_made _ _⟩
theorem rlast5 (w : World) : Calls Try.prog 14 #[.int .i64 5] w fun x w' => x = .returned (.int .i64 10) ∧ Below w.heap.size w w' := by
  go_enter Try.func14, Try.ntmps14
  go_wp2_with fail
  go_ret
  exact ⟨rfl, below_made _ _⟩

set_option maxRecDepth 20000 in
set_option maxHeartbeats 3200000 in
theorem kinds_core (v k : Int) (L : Nat) (w : World) (hv1 : 1 ≤ v) (hv5 : v ≤ 5) (hL1 : 1 ≤ L) (hL : L ≤ 10) (k0 : -9223372036854775808 ≤ k) (k1 : k ≤ 9223372036854775807)
    (hK : ∀ w, Calls Try.prog 13 #[.int .i64 v] w (GivesK w L)) (hR : ∀ w, Calls Try.prog 14 #[.int .i64 v] w fun x w' => x = .returned (.int .i64 (L : Int)) ∧ Below w.heap.size w w')
    (hlow : ∀ w, k < 1 → Calls Try.prog 15 #[.int .i64 v, kEv k] w fun x w' => x = .returned (.int .i64 31) ∧ Below w.heap.size w w')
    (hhigh : ∀ w, (L : Int) < k → Calls Try.prog 15 #[.int .i64 v, kEv k] w fun x w' => x = .returned (.int .i64 31) ∧ Below w.heap.size w w')
    (hok : ∀ w, 1 ≤ k → k ≤ (L : Int) → Calls Try.prog 15 #[.int .i64 v, kEv k] w fun x w' => x = .returned (.int .i64 0) ∧ Below w.heap.size w w') :
    Calls Try.prog 4 #[.int .i64 v, .int .i64 k] w fun x w' => x = .returned (.bool true) ∧ Below w.heap.size w w' := by
  have HK := Lib.hid hK
  have HR := Lib.hid hR
  have hres : ∃ (r : Int) (kb : Bool), kb = decide (1 ≤ k ∧ k ≤ (L : Int)) ∧ ((r = 0 ∧ kb = true) ∨ (r = 31 ∧ kb = false)) ∧ ∀ w, Calls Try.prog 15 #[.int .i64 v, kEv k] w fun x w' => x = .returned (.int .i64 r) ∧ Below w.heap.size w w' := by
    by_cases c1 : k < 1
    · exact ⟨31, false, (decide_eq_false (by omega)).symm, .inr ⟨rfl, rfl⟩, fun w => hlow w c1⟩
    · by_cases c2 : (L : Int) < k
      · exact ⟨31, false, (decide_eq_false (by omega)).symm, .inr ⟨rfl, rfl⟩, fun w => hhigh w c2⟩
      · exact ⟨0, true, (decide_eq_true (by omega)).symm, .inl ⟨rfl, rfl⟩, fun w => hok w (by omega) (by omega)⟩
  clear hK hR hlow hhigh hok
  obtain ⟨r, kb, hkb, hr, hchk⟩ := hres
  unfold kEv at hchk
  have HKB := Lib.hid hkb
  have HRR := Lib.hid hr
  have HC := Lib.hid hchk
  clear hkb hr hchk
  go_enter Try.func4, Try.ntmps4
  go_wp2_with fail
  (with_reducible refine (kinds1 _).mono ?_)
  rintro x w1 ⟨a1, c1, rfl, ho1, hb1⟩
  obtain ⟨g1, rfl⟩ := own_some ho1 (by decide)
  have hcell : w1.cell? ⟨g1, 0, none⟩ = some (.int .i64 1) := by rw [ho1.cellAt 0 (by decide), kindCells_at (by decide)]; rfl
  go_wp2_with fail
  (with_reducible refine (HK.out _).mono ?_)
  rintro x w2 ⟨a2, c2, rfl, ho2, hb2⟩
  have hb3 := below_next hb1 hb2
  have hv1' : ¬ v < 1 := by omega
  have hv5' : ¬ 5 < v := by omega
  have hs1 := hb1.size
  clear hcell ho1 hb1
  go_wp2_with fail
  (with_reducible refine (HR.out _).mono ?_)
  rintro x w3 ⟨rfl, hb4⟩
  have ho3 := own_below ho2 hb4
  have hb5 := below_next hb3 hb4
  clear ho2 hb2 hb3 hb4
  have hcap := (own_rowAt ho3).2.2.1
  have hcap2 := (own_rowAt ho3).2.1
  unfold maxLen at hcap
  go_wp2_with fail
  go_loopw [40] (fun iv wr => ∃ (j : Nat) (vs : List Value), iv = .int .i64 (j : Int) ∧ j ≤ L ∧ wr.ownsRow w1.heap.size 22 1 (.slice a2 L c2) L vs ∧ Hid (∀ i, j ≤ i → vs[i]? = (kindCells L)[i]?) ∧ Below w.heap.size w wr) (fun iv _ => L - (intOf iv).toNat)
  case atStart => exact ⟨0, _, rfl, Nat.zero_le _, ho3, Lib.hid (fun _ _ => rfl), hb5⟩
  case round =>
    clear ho3 hb5
    obtain ⟨j, vs, rfl, hj, oj, HV, hb⟩ := hrel
    by_cases hjl : j < L
    · obtain ⟨g, rfl⟩ := own_some oj (by omega)
      have hcx : wr.cell? ⟨g, j, none⟩ = some (.int .i64 ((j : Int) + 1)) := by
        rw [oj.cellAt j (by omega), HV.out j (Nat.le_refl _), kindCells_at hjl]
      have hf := oj.frozenAt j
      obtain ⟨hst, hgs⟩ := oj.stored j (.int .i64 0)
      have hgb : w.heap.size ≤ g := by have := (oj.lt g rfl).1; omega
      have HV2 : Hid (∀ i, j + 1 ≤ i → (vs.set j (.int .i64 0))[i]? = (kindCells L)[i]?) := Lib.hid (fun i hi => by
        rw [List.getElem?_set_ne (by omega)]; exact HV.out i (by omega))
      have hbs := hb.setCell (p := ⟨g, j, none⟩) hgb (.int .i64 0)
      go_wp2_with fail
      go_roundw
      case rel => exact ⟨j + 1, _, by go_num, by omega, hst, HV2, hbs⟩
      case measure => simp [intOf]; omega
    · obtain rfl : j = L := by omega
      have hjj : ¬ (j : Int) < (j : Int) := by omega
      clear oj HV
      go_wp2_with fail
      (with_reducible refine (HK.out _).mono ?_)
      rintro x w5 ⟨a5, c5, rfl, ho5, hb6⟩
      have r5 := own_rowAt ho5
      have hb7 := below_next hb hb6
      have hcap5 := r5.2.2.1
      have hcap6 := r5.2.1
      unfold maxLen at hcap5
      clear hb hb6
      go_wp2_with fail
      go_loopw [9, 58] (fun kv iv wr => ∃ (i : Nat) (q : Bool), kv = .bool q ∧ iv = .int .i64 (i : Int) ∧ i ≤ j ∧ Hid (q = decide (1 ≤ k ∧ k ≤ (i : Int))) ∧ w5 = wr) (fun _ iv _ => j - (intOf iv).toNat)
      case atStart => exact ⟨0, false, rfl, rfl, Nat.zero_le _, Lib.hid (decide_eq_false (by omega)).symm, rfl⟩
      case round =>
        obtain ⟨i, q, rfl, rfl, hi, HQ, rfl⟩ := hrel
        by_cases hil : i < j
        · obtain ⟨g, rfl⟩ := own_some ho5 (by omega)
          have hcx : w5.cell? ⟨g, i, none⟩ = some (.int .i64 ((i : Int) + 1)) := by
            rw [ho5.cellAt i (by omega), kindCells_at hil]
          by_cases hik : (i : Int) + 1 = k
          · have hbq : ((i : Int) + 1 == k) = true := by simpa using hik
            have HQ2 : Hid (true = decide (1 ≤ k ∧ k ≤ ((i + 1 : Nat) : Int))) := Lib.hid (decide_eq_true (by omega)).symm
            clear hik
            cases q
            all_goals
              go_wp2_with fail
              go_roundw
              case rel => exact ⟨i + 1, true, rfl, by go_num, by omega, HQ2, trivial⟩
              case measure => simp [intOf]; omega
          · have hbq : ((i : Int) + 1 == k) = false := by simpa using hik
            have HQ2 : Hid (q = decide (1 ≤ k ∧ k ≤ ((i + 1 : Nat) : Int))) := Lib.hid (by
              rw [HQ.out]
              by_cases h1 : 1 ≤ k ∧ k ≤ (i : Int)
              · rw [decide_eq_true h1, decide_eq_true (by omega)]
              · rw [decide_eq_false h1, decide_eq_false (by omega)])
            clear hik
            cases q
            · go_wp2_with fail
              go_roundw
              case rel => exact ⟨i + 1, false, rfl, by go_num, by omega, HQ2, trivial⟩
              case measure => simp [intOf]; omega
            · go_wp2_with fail
              go_roundw
              case rel => exact ⟨i + 1, true, rfl, by go_num, by omega, HQ2, trivial⟩
              case measure => simp [intOf]; omega
        · obtain rfl : i = j := by omega
          have hii : ¬ (i : Int) < (i : Int) := by omega
          obtain rfl : q = kb := HQ.out.trans HKB.out.symm
          clear HQ HKB ho5 r5
          rcases HRR.out with ⟨hr, hq⟩ | ⟨hr, hq⟩
          all_goals
            subst hr hq
            go_wp2_with fail
            (with_reducible refine (HC.out _).mono ?_)
            rintro x w6 ⟨rfl, hb8⟩
            go_wp2_with fail
            go_ret
            exact ⟨rfl, below_next hb7 hb8⟩

theorem kinds_walk (v k : Int) (w : World) (v0 : -9223372036854775808 ≤ v) (v1 : v ≤ 9223372036854775807) (k0 : -9223372036854775808 ≤ k) (k1 : k ≤ 9223372036854775807) :
    Calls Try.prog 4 #[.int .i64 v, .int .i64 k] w fun x w' => x = .returned (.bool true) ∧ Below w.heap.size w w' := by
  by_cases hin : 1 ≤ v ∧ v ≤ 5
  · obtain ⟨h1, h5⟩ := hin
    have hc : v = 1 ∨ v = 2 ∨ v = 3 ∨ v = 4 ∨ v = 5 := by omega
    rcases hc with rfl | rfl | rfl | rfl | rfl
    · exact kinds_core 1 k 5 w (by decide) (by decide) (by decide) (by decide) k0 k1 kinds1 rlast1 (fun w h => chk1_low k w h) (fun w h => chk1_high k w h) (fun w h h' => chk1_ok k w h h')
    · exact kinds_core 2 k 5 w (by decide) (by decide) (by decide) (by decide) k0 k1 kinds2 rlast2 (fun w h => chk2_low k w h) (fun w h => chk2_high k w h) (fun w h h' => chk2_ok k w h h')
    · exact kinds_core 3 k 7 w (by decide) (by decide) (by decide) (by decide) k0 k1 kinds3 rlast3 (fun w h => chk3_low k w h) (fun w h => chk3_high k w h) (fun w h h' => chk3_ok k w h h')
    · exact kinds_core 4 k 9 w (by decide) (by decide) (by decide) (by decide) k0 k1 kinds4 rlast4 (fun w h => chk4_low k w h) (fun w h => chk4_high k w h) (fun w h h' => chk4_ok k w h h')
    · exact kinds_core 5 k 10 w (by decide) (by decide) (by decide) (by decide) k0 k1 kinds5 rlast5 (fun w h => chk5_low k w h) (fun w h => chk5_high k w h) (fun w h h' => chk5_ok k w h h')
  · have hor : v < 1 ∨ (¬ v < 1 ∧ 5 < v) := by omega
    have HN := Lib.hid (fun wx => kinds_no v wx (by omega))
    clear hin
    rcases hor with c1 | ⟨c1, c2⟩
    all_goals
      go_enter Try.func4, Try.ntmps4
      go_wp2_with fail
      (with_reducible refine (kinds1 _).mono ?_)
      rintro x w1 ⟨a1, cc1, rfl, ho1, hb1⟩
      obtain ⟨g1, rfl⟩ := own_some ho1 (by decide)
      have hcell : w1.cell? ⟨g1, 0, none⟩ = some (.int .i64 1) := by rw [ho1.cellAt 0 (by decide), kindCells_at (by decide)]; rfl
      go_wp2_with fail
      (with_reducible refine (HN.out _).mono ?_)
      rintro x w2 ⟨a2, cc2, rfl, ho2, hb2⟩
      go_wp2_with fail
      go_ret
      exact ⟨rfl, below_next hb1 hb2⟩
end Go.Proofs.Ytmlkapmaebakbaa
