/-
  The walks of within, core, plain and of the five fits, at any event. No condition.
  The walks of typed and of Kinds. No condition.
-/
import Derived.Test.YtkdpingniohfhaaDoorMSty
import Derived.Test.YtkdpingniohfhaaDoorMBase
import Derived.Laws.Rows
import Derived.WalkSpells
namespace Go.Proofs.YtkdpingniohfhaaDoor
open Go.RowKit
set_option linter.unusedVariables false

theorem within_any (x lo hi : Int) (w : World) : Calls Tryd.prog 81 #[.int .i64 x, .int .i64 lo, .int .i64 hi] w fun e w' => e = .returned (.bool (wi x lo hi)) ∧ w = w' := by
  by_cases h1 : lo ≤ x
  · by_cases h2 : x ≤ hi
    · rw [wi_yes h1 h2]
      go_enter Tryd.func81, Tryd.ntmps81
      go_wp2_with fail
      go_ret
      exact ⟨rfl, rfl⟩
    · rw [wi_no (fun h => h2 h.2)]
      go_enter Tryd.func81, Tryd.ntmps81
      go_wp2_with fail
      go_ret
      exact ⟨rfl, rfl⟩
  · rw [wi_no (fun h => h1 h.1)]
    go_enter Tryd.func81, Tryd.ntmps81
    go_wp2_with fail
    go_ret
    exact ⟨rfl, rfl⟩

theorem core_any (k o i q p least dear : Int) (w : World) : Calls Tryd.prog 77 #[.agg #[.int .i64 k, .int .i64 o, .int .i64 i, .int .i64 q, .int .i64 p], .int .i64 least, .int .i64 dear] w fun e w' => e = .returned (.bool (coreB o i q p least dear)) ∧ Below w.heap.size w w' := by
  cases hA : wi o 1 1099511627776
  · have hR : coreB o i q p least dear = false := by simp [coreB, hA]
    rw [hR]
    go_enter Tryd.func77, Tryd.ntmps77
    go_wp2_with (go_at_call 81; refine (within_any _ _ _ _).mono ?_; rintro e w2 ⟨rfl, rfl⟩)
    go_ret
    exact ⟨rfl, below_made _ _⟩
  cases hB : wi i 0 65535
  · have hR : coreB o i q p least dear = false := by simp [coreB, hB]
    rw [hR]
    go_enter Tryd.func77, Tryd.ntmps77
    go_wp2_with (go_at_call 81; refine (within_any _ _ _ _).mono ?_; rintro e w2 ⟨rfl, rfl⟩)
    go_ret
    exact ⟨rfl, below_made _ _⟩
  cases hC : wi q least 10000
  · have hR : coreB o i q p least dear = false := by simp [coreB, hC]
    rw [hR]
    go_enter Tryd.func77, Tryd.ntmps77
    go_wp2_with (go_at_call 81; refine (within_any _ _ _ _).mono ?_; rintro e w2 ⟨rfl, rfl⟩)
    go_ret
    exact ⟨rfl, below_made _ _⟩
  have hR : coreB o i q p least dear = wi p 0 dear := by simp [coreB, hA, hB, hC]
  rw [hR]
  go_enter Tryd.func77, Tryd.ntmps77
  go_wp2_with (go_at_call 81; refine (within_any _ _ _ _).mono ?_; rintro e w2 ⟨rfl, rfl⟩)
  go_ret
  exact ⟨rfl, below_made _ _⟩

theorem fit1_any (e : Ev) (w : World) : Calls Tryd.prog 74 #[.agg #[.int .i64 e.kind, .int .i64 e.order, .int .i64 e.item, .int .i64 e.qty, .int .i64 e.price]] w fun x w' => x = .returned (.bool e.fit1) ∧ Below w.heap.size w w' := by
  unfold Ev.fit1
  go_enter Tryd.func74, Tryd.ntmps74
  go_wp2_with fail
  (with_reducible refine (core_any _ _ _ _ _ _ _ _).mono ?_)
  rintro x w1 ⟨rfl, hb1⟩
  go_wp2_with fail
  go_ret
  exact ⟨rfl, below_next (below_made _ _) hb1⟩

theorem fit2_any (e : Ev) (w : World) : Calls Tryd.prog 84 #[.agg #[.int .i64 e.kind, .int .i64 e.order, .int .i64 e.item, .int .i64 e.qty, .int .i64 e.price, .int .i64 e.cur]] w fun x w' => x = .returned (.bool e.fit2) ∧ Below w.heap.size w w' := by
  unfold Ev.fit2
  have h0 := heap_alloc_new w (.cells #[.int .i64 e.kind, .int .i64 e.order, .int .i64 e.item, .int .i64 e.qty, .int .i64 e.price, .int .i64 e.cur] 90)
  cases hB : coreB e.order e.item e.qty e.price (-10000) 100000000
  · rw [Bool.false_and]
    go_enter Tryd.func84, Tryd.ntmps84
    go_wp2_with fail
    (with_reducible refine (core_any _ _ _ _ _ _ _ _).mono ?_)
    rintro x w1 ⟨rfl, hb1⟩
    clear h0
    go_wp2_with fail
    go_ret
    exact ⟨rfl, below_next (below_made _ _) hb1⟩
  · rw [Bool.true_and]
    go_enter Tryd.func84, Tryd.ntmps84
    go_wp2_with fail
    (with_reducible refine (core_any _ _ _ _ _ _ _ _).mono ?_)
    rintro x w1 ⟨rfl, hb1⟩
    have h1 := (hb1.block _ (by simp)).trans h0
    have q5 : w1.cell? ⟨w.heap.size, 5, none⟩ = some (.int .i64 e.cur) := cell_blk h1 rfl
    clear h0 h1
    go_wp2_with (go_at_call 81; refine (within_any _ _ _ _).mono ?_; rintro x w2 ⟨rfl, rfl⟩)
    go_ret
    exact ⟨rfl, below_next (below_made _ _) hb1⟩

theorem fit3_any (e : Ev) (w : World) : Calls Tryd.prog 87 #[.agg #[.int .i64 e.kind, .int .i64 e.order, .int .i64 e.item, .int .i64 e.qty, .int .i64 e.price, .int .i64 e.cur, .int .i64 e.tax]] w fun x w' => x = .returned (.bool e.fit3) ∧ Below w.heap.size w w' := by
  unfold Ev.fit3
  have h0 := heap_alloc_new w (.cells #[.int .i64 e.kind, .int .i64 e.order, .int .i64 e.item, .int .i64 e.qty, .int .i64 e.price, .int .i64 e.cur, .int .i64 e.tax] 92)
  cases hB : e.fit2
  · rw [Bool.false_and]
    go_enter Tryd.func87, Tryd.ntmps87
    go_wp2_with fail
    (with_reducible refine (fit2_any e _).mono ?_)
    rintro x w1 ⟨rfl, hb1⟩
    clear h0
    go_wp2_with fail
    go_ret
    exact ⟨rfl, below_next (below_made _ _) hb1⟩
  · rw [Bool.true_and]
    by_cases hq : 0 ≤ e.qty
    · rw [decide_eq_true hq, Bool.true_and]
      go_enter Tryd.func87, Tryd.ntmps87
      go_wp2_with fail
      (with_reducible refine (fit2_any e _).mono ?_)
      rintro x w1 ⟨rfl, hb1⟩
      have h1 := (hb1.block _ (by simp)).trans h0
      have q3 : w1.cell? ⟨w.heap.size, 3, none⟩ = some (.int .i64 e.qty) := cell_blk h1 rfl
      have q6 : w1.cell? ⟨w.heap.size, 6, none⟩ = some (.int .i64 e.tax) := cell_blk h1 rfl
      clear h0 h1
      go_wp2_with (go_at_call 81; refine (within_any _ _ _ _).mono ?_; rintro x w2 ⟨rfl, rfl⟩)
      go_ret
      exact ⟨rfl, below_next (below_made _ _) hb1⟩
    · rw [decide_eq_false hq, Bool.false_and]
      go_enter Tryd.func87, Tryd.ntmps87
      go_wp2_with fail
      (with_reducible refine (fit2_any e _).mono ?_)
      rintro x w1 ⟨rfl, hb1⟩
      have h1 := (hb1.block _ (by simp)).trans h0
      have q3 : w1.cell? ⟨w.heap.size, 3, none⟩ = some (.int .i64 e.qty) := cell_blk h1 rfl
      clear h0 h1
      go_wp2_with fail
      go_ret
      exact ⟨rfl, below_next (below_made _ _) hb1⟩

theorem plain_any (s : ByteArray) (w : World) (hs : s.size ≤ maxLen) : Calls Tryd.prog 94 #[.string s] w fun e w' => e = .returned (.bool (plainB s)) ∧ w = w' := by
  unfold maxLen at hs
  go_enter Tryd.func94, Tryd.ntmps94
  go_wp2_with fail
  go_loop [7] (fun iv => ∃ j : Nat, iv = .int .i64 j ∧ j ≤ s.size ∧ Hid (∀ i (hi : i < s.size), i < j → okc s[i] = true)) (fun iv => s.size - (intOf iv).toNat)
  case atStart => exact ⟨0, rfl, Nat.zero_le _, Lib.hid (fun i _ hi => absurd hi (Nat.not_lt_zero _))⟩
  case round =>
    obtain ⟨j, rfl, hj, HV⟩ := hrel
    by_cases hlt : j < s.size
    · obtain ⟨x, hx⟩ : ∃ x : Int, x = (s[j].toNat : Int) := ⟨_, rfl⟩
      have HX := Lib.hid hx
      have hrec : ∀ (h : x = 45 ∨ (48 ≤ x ∧ x ≤ 57) ∨ (97 ≤ x ∧ x ≤ 122)), ∀ i (hi : i < s.size), i < j + 1 → okc s[i] = true := fun h i hi hij => by
        by_cases he : i = j
        · subst he; exact okc_yes HX.out h
        · exact HV.out i hi (by omega)
      have hbad : ∀ (h : ¬ (x = 45 ∨ (48 ≤ x ∧ x ≤ 57) ∨ (97 ≤ x ∧ x ≤ 122))), plainB s = false := fun h => plainB_no hlt (okc_no HX.out h)
      have HR := Lib.hid hrec
      have HB := Lib.hid hbad
      clear hrec hbad
      by_cases hok : x = 45 ∨ (48 ≤ x ∧ x ≤ 57) ∨ (97 ≤ x ∧ x ≤ 122)
      · have HR2 := Lib.hid (HR.out hok)
        clear HR HB HV
        rcases hok with h | ⟨h, h'⟩ | ⟨h, h'⟩
        · rw [hx] at h
          clear hx HX
          go_wp2_with fail
          go_round
          case rel => exact ⟨j + 1, by go_num, by omega, HR2⟩
          case measure => simp [intOf]; omega
        · rw [hx] at h h'
          have h45 : (((s[j].toNat : Int)) != 45) = true := by simp; omega
          have h48 : ¬ ((s[j].toNat : Int)) < 48 := by omega
          have h57 : ¬ 57 < ((s[j].toNat : Int)) := by omega
          clear hx HX
          go_wp2_with fail
          go_round
          case rel => exact ⟨j + 1, by go_num, by omega, HR2⟩
          case measure => simp [intOf]; omega
        · rw [hx] at h h'
          have h45 : (((s[j].toNat : Int)) != 45) = true := by simp; omega
          have h57 : 57 < ((s[j].toNat : Int)) := by omega
          have h48 : ¬ ((s[j].toNat : Int)) < 48 := by omega
          have h97 : ¬ ((s[j].toNat : Int)) < 97 := by omega
          have h122 : ¬ 122 < ((s[j].toNat : Int)) := by omega
          clear hx HX
          go_wp2_with fail
          go_round
          case rel => exact ⟨j + 1, by go_num, by omega, HR2⟩
          case measure => simp [intOf]; omega
      · have HB2 := Lib.hid (HB.out hok)
        clear HR HB HV
        have hc : (x < 48 ∧ x ≠ 45) ∨ (57 < x ∧ x < 97) ∨ 122 < x := by omega
        rw [hx] at hc
        have h45 : (((s[j].toNat : Int)) != 45) = true := by simp; omega
        clear hx HX hok
        rcases hc with ⟨h, -⟩ | ⟨h, h'⟩ | h
        · have h97 : ((s[j].toNat : Int)) < 97 := by omega
          go_wp2_with fail
          go_ret
          exact ⟨by rw [HB2.out]; rfl, rfl⟩
        · have h48 : ¬ ((s[j].toNat : Int)) < 48 := by omega
          go_wp2_with fail
          go_ret
          exact ⟨by rw [HB2.out]; rfl, rfl⟩
        · have h57 : 57 < ((s[j].toNat : Int)) := by omega
          have h48 : ¬ ((s[j].toNat : Int)) < 48 := by omega
          have h97 : ¬ ((s[j].toNat : Int)) < 97 := by omega
          go_wp2_with fail
          go_ret
          exact ⟨by rw [HB2.out]; rfl, rfl⟩
    · have hE : plainB s = true := plainB_yes (fun i hi => HV.out i hi (by omega))
      have HE := Lib.hid hE
      clear HV hE
      go_wp2_with fail
      go_ret
      exact ⟨by rw [HE.out]; rfl, rfl⟩

theorem fit4_any (e : Ev) (w : World) (hs : e.who.size ≤ maxLen) : Calls Tryd.prog 91 #[.agg #[.int .i64 e.kind, .int .i64 e.order, .int .i64 e.item, .int .i64 e.qty, .int .i64 e.price, .int .i64 e.cur, .int .i64 e.tax, .string e.who]] w fun x w' => x = .returned (.bool e.fit4) ∧ Below w.heap.size w w' := by
  unfold Ev.fit4
  have HP := Lib.hid (fun wx => plain_any e.who wx hs)
  have h0 := heap_alloc_new w (.cells #[.int .i64 e.kind, .int .i64 e.order, .int .i64 e.item, .int .i64 e.qty, .int .i64 e.price, .int .i64 e.cur, .int .i64 e.tax, .string e.who] 94)
  clear hs
  cases hB : e.fit3
  · rw [Bool.false_and]
    go_enter Tryd.func91, Tryd.ntmps91
    go_wp2_with fail
    (with_reducible refine (fit3_any e _).mono ?_)
    rintro x w1 ⟨rfl, hb1⟩
    clear h0
    go_wp2_with fail
    go_ret
    exact ⟨rfl, below_next (below_made _ _) hb1⟩
  · rw [Bool.true_and]
    go_enter Tryd.func91, Tryd.ntmps91
    go_wp2_with fail
    (with_reducible refine (fit3_any e _).mono ?_)
    rintro x w1 ⟨rfl, hb1⟩
    have h1 := (hb1.block _ (by simp)).trans h0
    have q7 : w1.cell? ⟨w.heap.size, 7, none⟩ = some (.string e.who) := cell_blk h1 rfl
    clear h0 h1
    go_wp2_with (go_at_call 94; refine (HP.out _).mono ?_; rintro x w2 ⟨rfl, rfl⟩)
    go_ret
    exact ⟨rfl, below_next (below_made _ _) hb1⟩

theorem fit5_any (e : Ev) (w : World) (hs : e.who.size ≤ maxLen) : Calls Tryd.prog 97 #[.agg #[.int .i64 e.kind, .int .i64 e.order, .int .i64 e.item, .int .i64 e.qty, .int .i64 e.price, .int .i64 e.cur, .int .i64 e.tax, .string e.who, .int .i64 e.stamp, .string e.note]] w fun x w' => x = .returned (.bool e.fit5) ∧ Below w.heap.size w w' := by
  unfold Ev.fit5
  have HP := Lib.hid (fun wx => fit4_any e wx hs)
  have h0 := heap_alloc_new w (.cells #[.int .i64 e.kind, .int .i64 e.order, .int .i64 e.item, .int .i64 e.qty, .int .i64 e.price, .int .i64 e.cur, .int .i64 e.tax, .string e.who, .int .i64 e.stamp, .string e.note] 96)
  clear hs
  cases hB : e.fit4
  · rw [Bool.false_and]
    go_enter Tryd.func97, Tryd.ntmps97
    go_wp2_with fail
    (with_reducible refine (HP.out _).mono ?_)
    rintro x w1 ⟨rfl, hb1⟩
    clear h0
    go_wp2_with fail
    go_ret
    exact ⟨rfl, below_next (below_made _ _) hb1⟩
  · rw [Bool.true_and]
    go_enter Tryd.func97, Tryd.ntmps97
    go_wp2_with fail
    (with_reducible refine (HP.out _).mono ?_)
    rintro x w1 ⟨rfl, hb1⟩
    have h1 := (hb1.block _ (by simp)).trans h0
    have q8 : w1.cell? ⟨w.heap.size, 8, none⟩ = some (.int .i64 e.stamp) := cell_blk h1 rfl
    clear h0 h1
    go_wp2_with (go_at_call 81; refine (within_any _ _ _ _).mono ?_; rintro x w2 ⟨rfl, rfl⟩)
    go_ret
    exact ⟨rfl, below_next (below_made _ _) hb1⟩
end Go.Proofs.YtkdpingniohfhaaDoor

namespace Go.Proofs.YtkdpingniohfhaaDoor
open Go.RowKit
set_option linter.unusedVariables false

/-- An event as one of a version; nil for a version that is none. -/
def typV (v : Int) (e : Ev) : Value :=
  if v = 1 then .iface 88 (.agg #[.int .i64 e.kind, .int .i64 e.order, .int .i64 e.item, .int .i64 e.qty, .int .i64 e.price])
  else if v = 2 then .iface 90 (.agg #[.int .i64 e.kind, .int .i64 e.order, .int .i64 e.item, .int .i64 e.qty, .int .i64 e.price, .int .i64 e.cur])
  else if v = 3 then .iface 92 (.agg #[.int .i64 e.kind, .int .i64 e.order, .int .i64 e.item, .int .i64 e.qty, .int .i64 e.price, .int .i64 e.cur, .int .i64 e.tax])
  else if v = 4 then .iface 94 (.agg #[.int .i64 e.kind, .int .i64 e.order, .int .i64 e.item, .int .i64 e.qty, .int .i64 e.price, .int .i64 e.cur, .int .i64 e.tax, .string e.who])
  else if v = 5 then .iface 96 (.agg #[.int .i64 e.kind, .int .i64 e.order, .int .i64 e.item, .int .i64 e.qty, .int .i64 e.price, .int .i64 e.cur, .int .i64 e.tax, .string e.who, .int .i64 e.stamp, .string e.note])
  else .nilIface

theorem typ_at (v : Int) (e : Ev) (w : World) (n : Int) (hn : v = n) (X : Value) (hX : typV v e = X) (h : Calls Tryd.prog 32 #[.int .i64 n, e.val] w fun x w' => x = .returned X ∧ Below w.heap.size w w') : Calls Tryd.prog 32 #[.int .i64 v, e.val] w fun x w' => x = .returned (typV v e) ∧ Below w.heap.size w w' := by
  subst hn hX; exact h

set_option maxHeartbeats 800000 in
theorem typed_any (v : Int) (e : Ev) (w : World) : Calls Tryd.prog 32 #[.int .i64 v, e.val] w fun x w' => x = .returned (typV v e) ∧ Below w.heap.size w w' := by
  have hl := fun (wx : World) => lift_any e wx
  unfold Ev.val Ev.cells at hl
  have HLF := Lib.hid hl
  clear hl
  by_cases h1 : v = 1
  · refine typ_at v e w 1 h1 _ (if_pos h1) ?_
    clear h1
    unfold Ev.val Ev.cells
    go_enter Tryd.func32, Tryd.ntmps32
    go_wp2_with fail
    (with_reducible refine (HLF.out _).mono ?_)
    rintro x w1 ⟨rfl, hb1⟩
    go_wp2_with fail
    go_ret
    exact ⟨rfl, below_next (below_next (below_made _ _) hb1) (below_made _ _)⟩
  · by_cases h2 : v = 2
    · refine typ_at v e w 2 h2 _ ((if_neg h1).trans (if_pos h2)) ?_
      clear h1 h2
      unfold Ev.val Ev.cells
      go_enter Tryd.func32, Tryd.ntmps32
      go_wp2_with fail
      (with_reducible refine (HLF.out _).mono ?_)
      rintro x w1 ⟨rfl, hb1⟩
      go_wp2_with fail
      go_ret
      exact ⟨rfl, below_next (below_next (below_made _ _) hb1) (below_made _ _)⟩
    · by_cases h3 : v = 3
      · refine typ_at v e w 3 h3 _ ((if_neg h1).trans ((if_neg h2).trans (if_pos h3))) ?_
        clear h1 h2 h3
        unfold Ev.val Ev.cells
        go_enter Tryd.func32, Tryd.ntmps32
        go_wp2_with fail
        (with_reducible refine (HLF.out _).mono ?_)
        rintro x w1 ⟨rfl, hb1⟩
        go_wp2_with fail
        go_ret
        exact ⟨rfl, below_next (below_next (below_made _ _) hb1) (below_made _ _)⟩
      · by_cases h4 : v = 4
        · refine typ_at v e w 4 h4 _ ((if_neg h1).trans ((if_neg h2).trans ((if_neg h3).trans (if_pos h4)))) ?_
          clear h1 h2 h3 h4
          unfold Ev.val Ev.cells
          go_enter Tryd.func32, Tryd.ntmps32
          go_wp2_with fail
          (with_reducible refine (HLF.out _).mono ?_)
          rintro x w1 ⟨rfl, hb1⟩
          go_wp2_with fail
          go_ret
          exact ⟨rfl, below_next (below_next (below_made _ _) hb1) (below_made _ _)⟩
        · by_cases h5 : v = 5
          · refine typ_at v e w 5 h5 _ ((if_neg h1).trans ((if_neg h2).trans ((if_neg h3).trans ((if_neg h4).trans (if_pos h5))))) ?_
            clear h1 h2 h3 h4 h5
            unfold Ev.val Ev.cells
            go_enter Tryd.func32, Tryd.ntmps32
            go_wp2_with fail
            (with_reducible refine (HLF.out _).mono ?_)
            rintro x w1 ⟨rfl, hb1⟩
            go_wp2_with fail
            go_ret
            exact ⟨rfl, below_next (below_next (below_made _ _) hb1) (below_made _ _)⟩
          · have HE : Hid (typV v e = .nilIface) := Lib.hid (by unfold typV; rw [if_neg h1, if_neg h2, if_neg h3, if_neg h4, if_neg h5])
            have b1 : (v == 1) = false := by simpa using h1
            have b2 : (v == 2) = false := by simpa using h2
            have b3 : (v == 3) = false := by simpa using h3
            have b4 : (v == 4) = false := by simpa using h4
            have b5 : (v == 5) = false := by simpa using h5
            clear h1 h2 h3 h4 h5
            rw [HE.out]
            unfold Ev.val Ev.cells
            go_enter Tryd.func32, Tryd.ntmps32
            go_wp2_with fail
            (with_reducible refine (HLF.out _).mono ?_)
            rintro x w1 ⟨rfl, hb1⟩
            go_wp2_with fail
            go_ret
            exact ⟨rfl, below_next (below_next (below_made _ _) hb1) (below_made _ _)⟩
end Go.Proofs.YtkdpingniohfhaaDoor
