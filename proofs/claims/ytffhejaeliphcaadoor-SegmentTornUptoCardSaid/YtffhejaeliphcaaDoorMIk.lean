/-
  Marks in memory, and the walks that read them: Valid, the reference's Valid, Same, copyOf. Condition: the slice reads as a list of marks.
  Marks in memory: the row, and a contract's word for marks in new memory. No condition.
  The walk of the reference's Valid. Condition: the argument reads as marks.
  The walk of the reference's Same of marks. Condition: the arguments read as marks.
  The walk of slices.Equal of marks. Condition: the arguments read as marks.
-/
import Derived.Test.YtffhejaeliphcaaDoorMBytes
import Derived.Test.YtffhejaeliphcaaDoorMLl
import Derived.Test.YtffhejaeliphcaaDoorMBase
import Derived.Laws.DeepNot64
namespace Go.Proofs.YtffhejaeliphcaaDoor
open Go.RowKit
set_option linter.unusedVariables false

/-- A mark: a number and a place. -/
structure Mk where
  s : Int
  a : Int
deriving DecidableEq
instance : Inhabited Mk := ⟨⟨0, 0⟩⟩
def Mk.cells (m : Mk) : List Value := [.int .i64 m.s, .int .i64 m.a]

theorem mk_at {w : World} {a : Option Addr} {n c : Nat} {ms : List Mk} (h : RowAt w a n c 2 (ms.flatMap Mk.cells)) (j : Nat) (hj : j < n) :
    ∃ b off m, a = some ⟨b, off, none⟩ ∧ ms[j]? = some m ∧ w.cell? ⟨b, off + j * 2, none⟩ = some (.int .i64 m.s) ∧ w.cell? ⟨b, off + j * 2 + 1, none⟩ = some (.int .i64 m.a) := by
  obtain ⟨b, off, u, ha, hu, hc⟩ := h.at (j * 2) (by omega)
  obtain ⟨b', off', u', ha', hu', hc'⟩ := h.at (j * 2 + 1) (by omega)
  rw [ha] at ha'; cases ha'
  obtain ⟨i, r, x, h1, h2, h3, h4⟩ := flat_get (k := 2) Mk.cells (fun _ => rfl) ms _ u hu
  obtain ⟨i', r', x', h1', h2', h3', h4'⟩ := flat_get (k := 2) Mk.cells (fun _ => rfl) ms _ u' hu'
  obtain rfl : r = 0 := by omega
  obtain rfl : r' = 1 := by omega
  obtain rfl : i = j := by omega
  obtain rfl : i' = i := by omega
  rw [h1] at h1'; cases h1'
  simp [Mk.cells] at h4 h4'
  exact ⟨b, off, x, ha, h1, by rw [hc, ← h4], by rw [← Nat.add_assoc] at hc'; rw [hc', ← h4']⟩

/-- The last of the first k; what stands ahead of the first. -/
def lastOf (ms : List Mk) (k : Nat) : Mk := if k = 0 then ⟨0, -1⟩ else ms.getD (k - 1) ⟨0, 0⟩

/-- Marks make an index, from a last one on. -/
def okFrom : Mk → List Mk → Bool
  | _, [] => true
  | p, m :: r => decide (p.s < m.s ∧ p.a < m.a ∧ m.s ≤ 1099511627776 ∧ m.a ≤ 1099511627776) && okFrom m r
def okN (ms : List Mk) : Bool := decide (ms.length ≤ 512) && okFrom ⟨0, -1⟩ ms

theorem okFrom_at (ms : List Mk) (k : Nat) (p m : Mk) (h : ms[k]? = some m) : okFrom p (ms.drop k) = (decide (p.s < m.s ∧ p.a < m.a ∧ m.s ≤ 1099511627776 ∧ m.a ≤ 1099511627776) && okFrom m (ms.drop (k + 1))) := by
  obtain ⟨hk, hm⟩ := List.getElem?_eq_some_iff.1 h
  rw [List.drop_eq_getElem_cons hk, hm]; rfl

set_option maxHeartbeats 400000 in
theorem valid_any (a : Option Addr) (n c : Nat) (ms : List Mk) (w : World) (r : RowAt w a n c 2 (ms.flatMap Mk.cells)) :
    Calls Tryd.prog 77 #[.slice a n c] w fun e w' => e = .returned (.bool (okN ms)) ∧ Below w.heap.size w w' := by
  have hml : ms.length = n := by have := r.1; rw [flat_length (k := 2) Mk.cells (fun _ => rfl)] at this; omega
  by_cases h512 : n ≤ 512
  · have hd : ¬ (512 : Int) < (n : Int) := by omega
    have hok : Hid (okN ms = okFrom ⟨0, -1⟩ (ms.drop 0)) := Lib.hid (by unfold okN; rw [hml, List.drop_zero]; simp [h512])
    go_enter Tryd.func77, Tryd.ntmps77
    go_wp2_with fail
    go_loopw [12] (fun iv wr => ∃ (k : Nat) (p : Mk) (e : TypeId), iv = .int .i64 (k : Int) ∧ k ≤ n ∧ wr.heap[w.heap.size]? = some (.cells #[.int .i64 p.s, .int .i64 p.a] e (0, 0)) ∧ Hid (okN ms = okFrom p (ms.drop k)) ∧ Below w.heap.size w wr) (fun iv _ => n - (intOf iv).toNat)
    case atStart => exact ⟨0, ⟨0, -1⟩, _, rfl, Nat.zero_le _, heap_alloc_new w _, hok, below_made w _⟩
    case round =>
      obtain ⟨k, p, e, rfl, hk, hg, HO, hb⟩ := hrel
      by_cases hlt : k < n
      · obtain ⟨b, off, m, rfl, hm, hc0, hc1⟩ := mk_at (r.below hb) k hlt
        have HA := Lib.hid (okFrom_at ms k p m hm)
        have hga : (wr.alloc (.cells #[.int .i64 m.s, .int .i64 m.a] 67)).heap[w.heap.size]? = some (.cells #[.int .i64 p.s, .int .i64 p.a] e (0, 0)) := by
          rw [Below.heap_alloc _ _ _ (by have := lt_of_block hg; omega)]; exact hg
        have g0 := cell_two0 hga
        have g1 := cell_two1 hga
        have f0 := free_two0 hga
        have f1 := free_two1 hga
        have hs0 := two_set0 (u := .int .i64 m.s) hga
        have f2 := free_two1 hs0
        have c2 := cell_two1 hs0
        have hs1 := two_set1 (u := .int .i64 m.a) hs0
        have hbn := below_next hb (below_made wr (.cells #[.int .i64 m.s, .int .i64 m.a] 67))
        have hbs := (hbn.setCell (p := ⟨w.heap.size, 0, none⟩) (Nat.le_refl _) (.int .i64 m.s)).setCell (p := ⟨w.heap.size, 1, none⟩) (Nat.le_refl _) (.int .i64 m.a)
        clear hs0 hga
        go_wp2_with fail
        all_goals first
          | (go_ret; exact ⟨ret_bool (by rw [HO.out, HA.out, decide_eq_false (by omega)]; rfl), hbn⟩)
          | (go_roundw
             case rel => exact ⟨k + 1, m, e, by go_num, by omega, hs1, Lib.hid (by rw [HO.out, HA.out, decide_eq_true (by omega), Bool.true_and]), hbs⟩
             case measure => simp [intOf]; omega)
      · obtain rfl : k = n := by omega
        have hlk : ¬ (k : Int) < (k : Int) := by omega
        go_wp2_with fail
        go_ret
        exact ⟨ret_bool (by rw [HO.out, List.drop_eq_nil_of_le (by omega)]; rfl), hb⟩
  · have hd : (512 : Int) < (n : Int) := by omega
    have hok : okN ms = false := by unfold okN; rw [hml]; simp [h512]
    go_enter Tryd.func77, Tryd.ntmps77
    go_wp2_with fail
    go_ret
    exact ⟨ret_bool hok.symm, Below.refl _ _⟩
end Go.Proofs.YtffhejaeliphcaaDoor

namespace Go.Proofs.YtffhejaeliphcaaDoor
open Go.RowKit
set_option linter.unusedVariables false

theorem slM : SlTy Tryd.prog 25 67 2 16 (.agg #[.int .i64 0, .int .i64 0]) := slTy_mk Tryd.underlying25 (by kernel_rfl) rfl (by decide) (by decide)

theorem M_one (ms : List Mk) : ∀ u ∈ ms.flatMap Mk.cells, u.oneCell' = true := by
  intro u hu
  obtain ⟨m, _, hm⟩ := List.mem_flatMap.1 hu
  simp [Mk.cells] at hm
  rcases hm with rfl | rfl <;> rfl

theorem M_len (ms : List Mk) : (ms.flatMap Mk.cells).length = ms.length * 2 := flat_length Mk.cells (fun _ => rfl) ms

/-- The word of a contract that gives marks in new memory. -/
def GivesM (eM : TypeId) (w : World) (ms : List Mk) (e : Ending) (w' : World) : Prop :=
  ∃ a cap, e = .returned (.slice a ms.length cap) ∧ w'.ownsRow w.heap.size eM 2 (.slice a ms.length cap) ms.length (ms.flatMap Mk.cells) ∧ Below w.heap.size w w'
end Go.Proofs.YtffhejaeliphcaaDoor

namespace Go.Proofs.YtffhejaeliphcaaDoor
open Go.RowKit
set_option linter.unusedVariables false

set_option maxHeartbeats 2000000 in
theorem rvalid_any (a : Option Addr) (n c : Nat) (ms : List Mk) (w : World) (r : RowAt w a n c 2 (ms.flatMap Mk.cells)) :
    Calls Tryd.prog 71 #[.slice a n c] w fun e w' => e = .returned (.bool (okN ms)) ∧ Still w w' := by
  have hml : ms.length = n := by have := r.1; rw [M_len] at this; omega
  by_cases h512 : n ≤ 512
  · have hd : ¬ (512 : Int) < (n : Int) := by omega
    have hok : Hid (okN ms = okFrom ⟨0, -1⟩ (ms.drop 0)) := Lib.hid (by unfold okN; rw [hml, List.drop_zero]; simp [h512])
    go_enter Tryd.func71, Tryd.ntmps71
    go_wp2_with fail
    go_loopw [9] (fun iv wr => ∃ (k : Nat) (p : Mk), iv = .int .i64 (k : Int) ∧ k ≤ n ∧ Hid (okN ms = okFrom p (ms.drop k)) ∧ Hid ((k = 0 → p = ⟨0, -1⟩) ∧ (0 < k → ms[k - 1]? = some p ∧ 1 ≤ p.s ∧ 0 ≤ p.a)) ∧ Still w wr) (fun iv _ => n - (intOf iv).toNat)
    case atStart => exact ⟨0, ⟨0, -1⟩, rfl, Nat.zero_le _, hok, Lib.hid ⟨fun _ => rfl, fun h => by omega⟩, Still.refl w⟩
    case round =>
      obtain ⟨k, p, rfl, hk, HO, HP, hst⟩ := hrel
      by_cases hlt : k < n
      · obtain ⟨b, off, m, rfl, hm, hc0, hc1⟩ := mk_at (r.still hst) k hlt
        have HA := Lib.hid (okFrom_at ms k p m hm)
        have HM := Lib.hid hm
        clear hm
        by_cases hgood : 1 ≤ m.s ∧ m.s ≤ 1099511627776 ∧ 0 ≤ m.a ∧ m.a ≤ 1099511627776
        · obtain ⟨g1, g2, g3, g4⟩ := hgood
          by_cases hk0 : k = 0
          · have hp := HP.out.1 hk0
            subst hp
            have hd1 : decide ((0 : Int) < (k : Int)) = false := by simp; omega
            have hd2 : decide (0 < k) = false := by simp; omega
            clear hk0
            go_wp2_with fail
            go_quiet (fail)
            go_wp2_with fail
            go_roundw
            case rel => exact ⟨k + 1, m, by go_num, by omega, Lib.hid (by rw [HO.out, HA.out, decide_eq_true (by show (0:Int) < m.s ∧ (-1 : Int) < m.a ∧ _ ∧ _; omega), Bool.true_and]), Lib.hid ⟨fun h => by omega, fun _ => ⟨HM.out, g1, g3⟩⟩, hst.trans (Still.one _ _)⟩
            case measure => simp [intOf]; omega
          · obtain ⟨j, hj⟩ : ∃ j, k = j + 1 := ⟨k - 1, by omega⟩
            obtain ⟨b', off', p', hba, hpj, hp0, hp1⟩ := mk_at (r.still hst) j (by omega)
            cases hba
            obtain ⟨q1, q2, q3⟩ := HP.out.2 (by omega)
            rw [hj, Nat.add_sub_cancel, hpj] at q1
            cases q1
            have hd1 : decide ((0 : Int) < (k : Int)) = true := by simp; omega
            have hd2 : decide (0 < k) = true := by simp; omega
            have hw1 : IntKind.i64.wrap ((k : Int) - 1) = (j : Int) := by rw [show (k : Int) - 1 = (j : Int) by omega]; exact IntWalk.i64_in _ (by have := r.2.1; have := r.2.2.1; unfold maxLen at this; omega)
            have hjn : j < n := by omega
            have hjn' : (j : Int) < (n : Int) := by omega
            have hlt' : (k : Int) < (n : Int) := by omega
            have HJ := Lib.hid hj
            clear hpj hk0 hj
            by_cases c1 : m.s ≤ p.s
            · go_wp2_with fail
              go_quiet (fail)
              go_wp2_with fail
              go_ret
              exact ⟨ret_bool (by rw [HO.out, HA.out, decide_eq_false (by omega)]; rfl), hst.trans (Still.one _ _)⟩
            · by_cases c2 : m.a ≤ p.a
              · go_wp2_with fail
                go_quiet (fail)
                go_wp2_with fail
                go_ret
                exact ⟨ret_bool (by rw [HO.out, HA.out, decide_eq_false (by omega)]; rfl), hst.trans (Still.one _ _)⟩
              · go_wp2_with fail
                go_quiet (fail)
                go_wp2_with fail
                go_roundw
                case rel => exact ⟨k + 1, m, by go_num, by omega, Lib.hid (by rw [HO.out, HA.out, decide_eq_true (by omega), Bool.true_and]), Lib.hid ⟨fun h => by omega, fun _ => ⟨HM.out, g1, g3⟩⟩, hst.trans (Still.one _ _)⟩
                case measure => simp [intOf]; omega
        · have hno : Hid (okN ms = false) := Lib.hid (by
            rw [HO.out, HA.out]
            have hq : ¬ (p.s < m.s ∧ p.a < m.a ∧ m.s ≤ 1099511627776 ∧ m.a ≤ 1099511627776) := by
              by_cases hk0 : k = 0
              · have hp := HP.out.1 hk0
                subst hp
                show ¬ ((0 : Int) < m.s ∧ (-1 : Int) < m.a ∧ m.s ≤ 1099511627776 ∧ m.a ≤ 1099511627776)
                omega
              · obtain ⟨q1, q2, q3⟩ := HP.out.2 (by omega)
                omega
            rw [decide_eq_false hq]; rfl)
          by_cases c1 : m.s < 1
          · go_wp2_with fail
            go_ret
            exact ⟨ret_bool hno.out.symm, hst⟩
          · by_cases c2 : 1099511627776 < m.s
            · go_wp2_with fail
              go_ret
              exact ⟨ret_bool hno.out.symm, hst⟩
            · by_cases c3 : m.a < 0
              · go_wp2_with fail
                go_ret
                exact ⟨ret_bool hno.out.symm, hst⟩
              · have c4 : 1099511627776 < m.a := by omega
                clear hgood
                go_wp2_with fail
                go_ret
                exact ⟨ret_bool hno.out.symm, hst⟩
      · obtain rfl : k = n := by omega
        have hlk : ¬ (k : Int) < (k : Int) := by omega
        go_wp2_with fail
        go_ret
        exact ⟨ret_bool (by rw [HO.out, List.drop_eq_nil_of_le (by omega)]; rfl), hst⟩
  · have hd : (512 : Int) < (n : Int) := by omega
    have hok : okN ms = false := by unfold okN; rw [hml]; simp [h512]
    go_enter Tryd.func71, Tryd.ntmps71
    go_wp2_with fail
    go_ret
    exact ⟨ret_bool hok.symm, Still.refl _⟩
end Go.Proofs.YtffhejaeliphcaaDoor

namespace Go.Proofs.YtffhejaeliphcaaDoor
open Go.RowKit
set_option linter.unusedVariables false

theorem mtake_ne {l m : List Mk} {k : Nat} {c d : Mk} (hc : l[k]? = some c) (hd : m[k]? = some d) (hcd : c ≠ d) : l ≠ m := by
  rintro rfl; rw [hc] at hd; exact hcd (Option.some.inj hd)
theorem msame_step {l m : List Mk} {k : Nat} {c d : Mk} (hc : l[k]? = some c) (hd : m[k]? = some d) (h : l.take k = m.take k) (hcd : c = d) : l.take (k + 1) = m.take (k + 1) := by
  rw [List.take_add_one, List.take_add_one, hc, hd, h, hcd]

set_option maxHeartbeats 800000 in
theorem rmsame_any (a1 : Option Addr) (n1 c1 : Nat) (l1 : List Mk) (a2 : Option Addr) (n2 c2 : Nat) (l2 : List Mk) (w : World) (r1 : RowAt w a1 n1 c1 2 (l1.flatMap Mk.cells)) (r2 : RowAt w a2 n2 c2 2 (l2.flatMap Mk.cells)) :
    Calls Tryd.prog 25 #[.slice a1 n1 c1, .slice a2 n2 c2] w fun e w' => e = .returned (.bool (decide (l1 = l2))) ∧ Still w w' := by
  have e1 : l1.length = n1 := by have := r1.1; rw [M_len] at this; omega
  have e2 : l2.length = n2 := by have := r2.1; rw [M_len] at this; omega
  have m1 := r1.2.2.1
  have m2 := r1.2.1
  unfold maxLen at m1
  by_cases hn : n1 = n2
  · subst hn
    have H2 := Lib.hid e2; clear e2
    have H1 := Lib.hid e1; clear e1
    go_enter Tryd.func25, Tryd.ntmps25
    go_wp2_with fail
    go_loopw [13] (fun iv wr => ∃ k : Nat, iv = .int .i64 (k : Int) ∧ k ≤ n1 ∧ Hid (l1.take k = l2.take k) ∧ Still w wr) (fun iv _ => n1 - (intOf iv).toNat)
    case atStart => exact ⟨0, rfl, Nat.zero_le _, Lib.hid rfl, Still.refl _⟩
    case round =>
      obtain ⟨k, rfl, hk, HT, hst⟩ := hrel
      by_cases hlt : k < n1
      · obtain ⟨b1, o1, x1, rfl, hx1, hc1, hd1⟩ := mk_at (r1.still hst) k hlt
        obtain ⟨b2, o2, x2, rfl, hx2, hc2, hd2⟩ := mk_at (r2.still hst) k hlt
        have HX1 := Lib.hid hx1; clear hx1
        have HX2 := Lib.hid hx2; clear hx2
        have hlt' : (k : Int) < (n1 : Int) := by omega
        by_cases hcd : x1 = x2
        · subst hcd
          go_wp2_with fail
          go_quiet (fail)
          go_wp2_with fail
          go_roundw
          case rel => exact ⟨k + 1, by go_num, by omega, Lib.hid (msame_step HX1.out HX2.out HT.out rfl), hst.trans (Still.one _ _)⟩
          case measure => simp [intOf]; omega
        · have HN := Lib.hid (mtake_ne HX1.out HX2.out hcd)
          by_cases hs : x1.s = x2.s
          · have hb1 : (x1.s == x2.s) = true := by simpa using hs
            have hb2 : (x1.a == x2.a) = false := by
              rw [beq_eq_false_iff_ne]; intro h; exact hcd (by cases x1; cases x2; simp_all)
            clear hs hcd
            go_wp2_with fail
            go_quiet (fail)
            go_wp2_with fail
            go_ret
            exact ⟨ret_bool (decide_eq_false HN.out).symm, hst.trans (Still.one _ _)⟩
          · have hb1 : (x1.s == x2.s) = false := by simpa using hs
            clear hs hcd
            go_wp2_with fail
            go_quiet (fail)
            go_wp2_with fail
            go_ret
            exact ⟨ret_bool (decide_eq_false HN.out).symm, hst.trans (Still.one _ _)⟩
      · go_wp2_with fail
        go_ret
        refine ⟨ret_bool ?_, hst⟩
        have ht := HT.out
        rw [List.take_of_length_le (by have := H1.out; omega), List.take_of_length_le (by have := H2.out; omega)] at ht
        rw [ht]; simp
  · have hb : ((n1 : Int) != (n2 : Int)) = true := by rw [bne_iff_ne]; omega
    have HN : Hid (l1 ≠ l2) := Lib.hid (by rintro rfl; omega)
    clear e1 e2
    go_enter Tryd.func25, Tryd.ntmps25
    go_wp2_with fail
    go_ret
    exact ⟨ret_bool (decide_eq_false HN.out).symm, Still.refl _⟩
end Go.Proofs.YtffhejaeliphcaaDoor

namespace Go.Proofs.YtffhejaeliphcaaDoor
open Go.RowKit
set_option linter.unusedVariables false

set_option maxHeartbeats 800000 in
theorem meq_any (a1 : Option Addr) (n1 c1 : Nat) (l1 : List Mk) (a2 : Option Addr) (n2 c2 : Nat) (l2 : List Mk) (w : World) (r1 : RowAt w a1 n1 c1 2 (l1.flatMap Mk.cells)) (r2 : RowAt w a2 n2 c2 2 (l2.flatMap Mk.cells)) :
    Calls Tryd.prog 36 #[.slice a1 n1 c1, .slice a2 n2 c2] w fun e w' => e = .returned (.bool (decide (l1 = l2))) ∧ Still w w' := by
  have e1 : l1.length = n1 := by have := r1.1; rw [M_len] at this; omega
  have e2 : l2.length = n2 := by have := r2.1; rw [M_len] at this; omega
  have m1 := r1.2.2.1
  have m2 := r1.2.1
  unfold maxLen at m1
  by_cases hn : n1 = n2
  · subst hn
    have H2 := Lib.hid e2; clear e2
    have H1 := Lib.hid e1; clear e1
    go_enter Tryd.func36, Tryd.ntmps36
    go_wp2_with fail
    go_loopw [13] (fun iv wr => ∃ k : Nat, iv = .int .i64 (k : Int) ∧ k ≤ n1 ∧ Hid (l1.take k = l2.take k) ∧ Still w wr) (fun iv _ => n1 - (intOf iv).toNat)
    case atStart => exact ⟨0, rfl, Nat.zero_le _, Lib.hid rfl, Still.refl _⟩
    case round =>
      obtain ⟨k, rfl, hk, HT, hst⟩ := hrel
      by_cases hlt : k < n1
      · obtain ⟨b1, o1, x1, rfl, hx1, hc1, hd1⟩ := mk_at (r1.still hst) k hlt
        obtain ⟨b2, o2, x2, rfl, hx2, hc2, hd2⟩ := mk_at (r2.still hst) k hlt
        have HX1 := Lib.hid hx1; clear hx1
        have HX2 := Lib.hid hx2; clear hx2
        have hlt' : (k : Int) < (n1 : Int) := by omega
        by_cases hcd : x1 = x2
        · subst hcd
          go_wp2_with fail
          go_quiet (fail)
          go_wp2_with fail
          go_roundw
          case rel => exact ⟨k + 1, by go_num, by omega, Lib.hid (msame_step HX1.out HX2.out HT.out rfl), hst.trans (Still.one _ _)⟩
          case measure => simp [intOf]; omega
        · have HN := Lib.hid (mtake_ne HX1.out HX2.out hcd)
          by_cases hs : x1.s = x2.s
          · have hb1 : (x1.s == x2.s) = true := by simpa using hs
            have hb2 : (x1.a == x2.a) = false := by
              rw [beq_eq_false_iff_ne]; intro h; exact hcd (by cases x1; cases x2; simp_all)
            clear hs hcd
            go_wp2_with fail
            go_quiet (fail)
            go_wp2_with fail
            go_ret
            exact ⟨ret_bool (decide_eq_false HN.out).symm, hst.trans (Still.one _ _)⟩
          · have hb1 : (x1.s == x2.s) = false := by simpa using hs
            clear hs hcd
            go_wp2_with fail
            go_quiet (fail)
            go_wp2_with fail
            go_ret
            exact ⟨ret_bool (decide_eq_false HN.out).symm, hst.trans (Still.one _ _)⟩
      · go_wp2_with fail
        go_ret
        refine ⟨ret_bool ?_, hst⟩
        have ht := HT.out
        rw [List.take_of_length_le (by have := H1.out; omega), List.take_of_length_le (by have := H2.out; omega)] at ht
        rw [ht]; simp
  · have hb : ((n1 : Int) != (n2 : Int)) = true := by rw [bne_iff_ne]; omega
    have HN : Hid (l1 ≠ l2) := Lib.hid (by rintro rfl; omega)
    clear e1 e2
    go_enter Tryd.func36, Tryd.ntmps36
    go_wp2_with fail
    go_ret
    exact ⟨ret_bool (decide_eq_false HN.out).symm, Still.refl _⟩
end Go.Proofs.YtffhejaeliphcaaDoor
