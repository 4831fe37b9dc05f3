/-
  Marks in memory, and the walks that read them: Valid, the reference's Valid, Same, copyOf. Condition: the slice reads as a list of marks.
  Marks in memory: the row, and a contract's word for marks in new memory. No condition.
  The walk of the reference's Valid. Condition: the argument reads as marks.
  The walk of the reference's Same of marks. Condition: the arguments read as marks.
  The walk of index.Seek; when marks are an index, in words. Conditions: those that each line names.
  The walk of slices.Equal of marks. Condition: the arguments read as marks.
-/
import Derived.Test.YtffhejaeliphcaaDoorMBytes
import Derived.Test.YtffhejaeliphcaaDoorMLl
import Derived.Test.YtffhejaeliphcaaDoorMBase
import Derived.Laws.DeepNot64
namespace Go.Proofs.YtffhejaeliphcaaDoor
open Go.RowKit
set_option linter.unusedVariables false

/-- A mark: a number and a place. -/
structure Mk where
  s : Int
  a : Int
deriving DecidableEq
instance : Inhabited Mk := ⟨⟨0, 0⟩⟩
def Mk.cells (m : Mk) : List Value := [.int .i64 m.s, .int .i64 m.a]

theorem mk_at {w : World} {a : Option Addr} {n c : Nat} {ms : List Mk} (h : RowAt w a n c 2 (ms.flatMap Mk.cells)) (j : Nat) (hj : j < n) :
    ∃ b off m, a = some ⟨b, off, none⟩ ∧ ms[j]? = some m ∧ w.cell? ⟨b, off + j * 2, none⟩ = some (.int .i64 m.s) ∧ w.cell? ⟨b, off + j * 2 + 1, none⟩ = some (.int .i64 m.a) := by
  obtain ⟨b, off, u, ha, hu, hc⟩ := h.at (j * 2) (by omega)
  obtain ⟨b', off', u', ha', hu', hc'⟩ := h.at (j * 2 + 1) (by omega)
  rw [ha] at ha'; cases ha'
  obtain ⟨i, r, x, h1, h2, h3, h4⟩ := flat_get (k := 2) Mk.cells (fun _ => rfl) ms _ u hu
  obtain ⟨i', r', x', h1', h2', h3', h4'⟩ := flat_get (k := 2) Mk.cells (fun _ => rfl) ms _ u' hu'
  obtain rfl : r = 0 := by omega
  obtain rfl : r' = 1 := by omega
  obtain rfl : i = j := by omega
  obtain rfl : i' = i := by omega
  rw [h1] at h1'; cases h1'
  simp [Mk.cells] at h4 h4'
  exact ⟨b, off, x, ha, h1, by rw [hc, ← h4], by rw [← Nat.add_assoc] at hc'; rw [hc', ← h4']⟩

/-- The last of the first k; what stands ahead of the first. -/
def lastOf (ms : List Mk) (k : Nat) : Mk := if k = 0 then ⟨0, -1⟩ else ms.getD (k - 1) ⟨0, 0⟩

/-- Marks make an index, from a last one on. -/
def okFrom : Mk → List Mk → Bool
  | _, [] => true
  | p, m :: r => decide (p.s < m.s ∧ p.a < m.a ∧ m.s ≤ 1099511627776 ∧ m.a ≤ 1099511627776) && okFrom m r
def okN (ms : List Mk) : Bool := decide (ms.length ≤ 512) && okFrom ⟨0, -1⟩ ms

theorem okFrom_at (ms : List Mk) (k : Nat) (p m : Mk) (h : ms[k]? = some m) : okFrom p (ms.drop k) = (decide (p.s < m.s ∧ p.a < m.a ∧ m.s ≤ 1099511627776 ∧ m.a ≤ 1099511627776) && okFrom m (ms.drop (k + 1))) := by
  obtain ⟨hk, hm⟩ := List.getElem?_eq_some_iff.1 h
  rw [List.drop_eq_getElem_cons hk, hm]; rfl

set_option maxHeartbeats 400000 in
theorem valid_any (a : Option Addr) (n c : Nat) (ms : List Mk) (w : World) (r : RowAt w a n c 2 (ms.flatMap Mk.cells)) :
    Calls Tryd.prog 77 #[.slice a n c] w fun e w' => e = .returned (.bool (okN ms)) ∧ Below w.heap.size w w' := by
  have hml : ms.length = n := by have := r.1; rw [flat_length (k := 2) Mk.cells (fun _ => rfl)] at this; omega
  by_cases h512 : n ≤ 512
  · have hd : ¬ (512 : Int) < (n : Int) := by omega
    have hok : Hid (okN ms = okFrom ⟨0, -1⟩ (ms.drop 0)) := Lib.hid (by unfold okN; rw [hml, List.drop_zero]; simp [h512])
    go_enter Tryd.func77, Tryd.ntmps77
    go_wp2_with fail
    go_loopw [12] (fun iv wr => ∃ (k : Nat) (p : Mk) (e : TypeId), iv = .int .i64 (k : Int) ∧ k ≤ n ∧ wr.heap[w.heap.size]? = some (.cells #[.int .i64 p.s, .int .i64 p.a] e (0, 0)) ∧ Hid (okN ms = okFrom p (ms.drop k)) ∧ Below w.heap.size w wr) (fun iv _ => n - (intOf iv).toNat)
    case atStart => exact ⟨0, ⟨0, -1⟩, _, rfl, Nat.zero_le _, heap_alloc_new w _, hok, below_made w _⟩
    case round =>
      obtain ⟨k, p, e, rfl, hk, hg, HO, hb⟩ := hrel
      by_cases hlt : k < n
      · obtain ⟨b, off, m, rfl, hm, hc0, hc1⟩ := mk_at (r.below hb) k hlt
        have HA := Lib.hid (okFrom_at ms k p m hm)
        have hga : (wr.alloc (.cells #[.int .i64 m.s, .int .i64 m.a] 67)).heap[w.heap.size]? = some (.cells #[.int .i64 p.s, .int .i64 p.a] e (0, 0)) := by
          rw [Below.heap_alloc _ _ _ (by have := lt_of_block hg; omega)]; exact hg
        have g0 := cell_two0 hga
        have g1 := cell_two1 hga
        have f0 := free_two0 hga
        have f1 := free_two1 hga
        have hs0 := two_set0 (u := .int .i64 m.s) hga
        have f2 := free_two1 hs0
        have c2 := cell_two1 hs0
        have hs1 := two_set1 (u := .int .i64 m.a) hs0
        have hbn := below_next hb (below_made wr (.cells #[.int .i64 m.s, .int .i64 m.a] 67))
        have hbs := (hbn.setCell (p := ⟨w.heap.size, 0, none⟩) (Nat.le_refl _) (.int .i64 m.s)).setCell (p := ⟨w.heap.size, 1, none⟩) (Nat.le_refl _) (.int .i64 m.a)
        clear hs0 hga
        go_wp2_with fail
        all_goals first
          | (go_ret; exact ⟨ret_bool (by rw [HO.out, HA.out, decide_eq_false (by omega)]; rfl), hbn⟩)
          | (go_roundw
             case rel => exact ⟨k + 1, m, e, by go_num, by omega, hs1, Lib.hid (by rw [HO.out, HA.out, decide_eq_true (by omega), Bool.true_and]), hbs⟩
             case measure => simp [intOf]; omega)
      · obtain rfl : k = n := by omega
        have hlk : ¬ (k : Int) < (k : Int) := by omega
        go_wp2_with fail
        go_ret
        exact ⟨ret_bool (by rw [HO.out, List.drop_eq_nil_of_le (by omega)]; rfl), hb⟩
  · have hd : (512 : Int) < (n : Int) := by omega
    have hok : okN ms = false := by unfold okN; rw [hml]; simp [h512]
    go_enter Tryd.func77, Tryd.ntmps77
    go_wp2_with fail
    go_ret
    exact ⟨ret_bool hok.symm, Below.refl _ _⟩
end Go.Proofs.YtffhejaeliphcaaDoor

namespace Go.Proofs.YtffhejaeliphcaaDoor
open Go.RowKit
set_option linter.unusedVariables false

theorem slM : SlTy Tryd.prog 25 67 2 16 (.agg #[.int .i64 0, .int .i64 0]) := slTy_mk Tryd.underlying25 (by kernel_rfl) rfl (by decide) (by decide)

theorem M_one (ms : List Mk) : ∀ u ∈ ms.flatMap Mk.cells, u.oneCell' = true := by
  intro u hu
  obtain ⟨m, _, hm⟩ := List.mem_flatMap.1 hu
  simp [Mk.cells] at hm
  rcases hm with rfl | rfl <;> rfl

theorem M_len (ms : List Mk) : (ms.flatMap Mk.cells).length = ms.length * 2 := flat_length Mk.cells (fun _ => rfl) ms

/-- The word of a contract that gives marks in new memory. -/
def GivesM (eM : TypeId) (w : World) (ms : List Mk) (e : Ending) (w' : World) : Prop :=
  ∃ a cap, e = .returned (.slice a ms.length cap) ∧ w'.ownsRow w.heap.size eM 2 (.slice a ms.length cap) ms.length (ms.flatMap Mk.cells) ∧ Below w.heap.size w w'
end Go.Proofs.YtffhejaeliphcaaDoor

namespace Go.Proofs.YtffhejaeliphcaaDoor
open Go.RowKit
set_option linter.unusedVariables false

set_option maxHeartbeats 2000000 in
theorem rvalid_any (a : Option Addr) (n c : Nat) (ms : List Mk) (w : World) (r : RowAt w a n c 2 (ms.flatMap Mk.cells)) :
    Calls Tryd.prog 71 #[.slice a n c] w fun e w' => e = .returned (.bool (okN ms)) ∧ Still w w' := by
  have hml : ms.length = n := by have := r.1; rw [M_len] at this; omega
  by_cases h512 : n ≤ 512
  · have hd : ¬ (512 : Int) < (n : Int) := by omega
    have hok : Hid (okN ms = okFrom ⟨0, -1⟩ (ms.drop 0)) := Lib.hid (by unfold okN; rw [hml, List.drop_zero]; simp [h512])
    go_enter Tryd.func71, Tryd.ntmps71
    go_wp2_with fail
    go_loopw [9] (fun iv wr => ∃ (k : Nat) (p : Mk), iv = .int .i64 (k : Int) ∧ k ≤ n ∧ Hid (okN ms = okFrom p (ms.drop k)) ∧ Hid ((k = 0 → p = ⟨0, -1⟩) ∧ (0 < k → ms[k - 1]? = some p ∧ 1 ≤ p.s ∧ 0 ≤ p.a)) ∧ Still w wr) (fun iv _ => n - (intOf iv).toNat)
    case atStart => exact ⟨0, ⟨0, -1⟩, rfl, Nat.zero_le _, hok, Lib.hid ⟨fun _ => rfl, fun h => by omega⟩, Still.refl w⟩
    case round =>
      obtain ⟨k, p, rfl, hk, HO, HP, hst⟩ := hrel
      by_cases hlt : k < n
      · obtain ⟨b, off, m, rfl, hm, hc0, hc1⟩ := mk_at (r.still hst) k hlt
        have HA := Lib.hid (okFrom_at ms k p m hm)
        have HM := Lib.hid hm
        clear hm
        by_cases hgood : 1 ≤ m.s ∧ m.s ≤ 1099511627776 ∧ 0 ≤ m.a ∧ m.a ≤ 1099511627776
        · obtain ⟨g1, g2, g3, g4⟩ := hgood
          by_cases hk0 : k = 0
          · have hp := HP.out.1 hk0
            subst hp
            have hd1 : decide ((0 : Int) < (k : Int)) = false := by simp; omega
            have hd2 : decide (0 < k) = false := by simp; omega
            clear hk0
            go_wp2_with fail
            go_quiet (fail)
            go_wp2_with fail
            go_roundw
            case rel => exact ⟨k + 1, m, by go_num, by omega, Lib.hid (by rw [HO.out, HA.out, decide_eq_true (by show (0:Int) < m.s ∧ (-1 : Int) < m.a ∧ _ ∧ _; omega), Bool.true_and]), Lib.hid ⟨fun h => by omega, fun _ => ⟨HM.out, g1, g3⟩⟩, hst.trans (Still.one _ _)⟩
            case measure => simp [intOf]; omega
          · obtain ⟨j, hj⟩ : ∃ j, k = j + 1 := ⟨k - 1, by omega⟩
            obtain ⟨b', off', p', hba, hpj, hp0, hp1⟩ := mk_at (r.still hst) j (by omega)
            cases hba
            obtain ⟨q1, q2, q3⟩ := HP.out.2 (by omega)
            rw [hj, Nat.add_sub_cancel, hpj] at q1
            cases q1
            have hd1 : decide ((0 : Int) < (k : Int)) = true := by simp; omega
            have hd2 : decide (0 < k) = true := by simp; omega
            have hw1 : IntKind.i64.wrap ((k : Int) - 1) = (j : Int) := by rw [show (k : Int) - 1 = (j : Int) by omega]; exact IntWalk.i64_in _ (by have := r.2.1; have := r.2.2.1; unfold maxLen at this; omega)
            have hjn : j < n := by omega
            have hjn' : (j : Int) < (n : Int) := by omega
            have hlt' : (k : Int) < (n : Int) := by omega
            have HJ := Lib.hid hj
            clear hpj hk0 hj
            by_cases c1 : m.s ≤ p.s
            · go_wp2_with fail
              go_quiet (fail)
              go_wp2_with fail
              go_ret
              exact ⟨ret_bool (by rw [HO.out, HA.out, decide_eq_false (by omega)]; rfl), hst.trans (Still.one _ _)⟩
            · by_cases c2 : m.a ≤ p.a
              · go_wp2_with fail
                go_quiet (fail)
                go_wp2_with fail
                go_ret
                exact ⟨ret_bool (by rw [HO.out, HA.out, decide_eq_false (by omega)]; rfl), hst.trans (Still.one _ _)⟩
              · go_wp2_with fail
                go_quiet (fail)
                go_wp2_with fail
                go_roundw
                case rel => exact ⟨k + 1, m, by go_num, by omega, Lib.hid (by rw [HO.out, HA.out, decide_eq_true (by omega), Bool.true_and]), Lib.hid ⟨fun h => by omega, fun _ => ⟨HM.out, g1, g3⟩⟩, hst.trans (Still.one _ _)⟩
                case measure => simp [intOf]; omega
        · have hno : Hid (okN ms = false) := Lib.hid (by
            rw [HO.out, HA.out]
            have hq : ¬ (p.s < m.s ∧ p.a < m.a ∧ m.s ≤ 1099511627776 ∧ m.a ≤ 1099511627776) := by
              by_cases hk0 : k = 0
              · have hp := HP.out.1 hk0
                subst hp
                show ¬ ((0 : Int) < m.s ∧ (-1 : Int) < m.a ∧ m.s ≤ 1099511627776 ∧ m.a ≤ 1099511627776)
                omega
              · obtain ⟨q1, q2, q3⟩ := HP.out.2 (by omega)
                omega
            rw [decide_eq_false hq]; rfl)
          by_cases c1 : m.s < 1
          · go_wp2_with fail
            go_ret
            exact ⟨ret_bool hno.out.symm, hst⟩
          · by_cases c2 : 1099511627776 < m.s
            · go_wp2_with fail
              go_ret
              exact ⟨ret_bool hno.out.symm, hst⟩
            · by_cases c3 : m.a < 0
              · go_wp2_with fail
                go_ret
                exact ⟨ret_bool hno.out.symm, hst⟩
              · have c4 : 1099511627776 < m.a := by omega
                clear hgood
                go_wp2_with fail
                go_ret
                exact ⟨ret_bool hno.out.symm, hst⟩
      · obtain rfl : k = n := by omega
        have hlk : ¬ (k : Int) < (k : Int) := by omega
        go_wp2_with fail
        go_ret
        exact ⟨ret_bool (by rw [HO.out, List.drop_eq_nil_of_le (by omega)]; rfl), hst⟩
  · have hd : (512 : Int) < (n : Int) := by omega
    have hok : okN ms = false := by unfold okN; rw [hml]; simp [h512]
    go_enter Tryd.func71, Tryd.ntmps71
    go_wp2_with fail
    go_ret
    exact ⟨ret_bool hok.symm, Still.refl _⟩
end Go.Proofs.YtffhejaeliphcaaDoor

namespace Go.Proofs.YtffhejaeliphcaaDoor
open Go.RowKit
set_option linter.unusedVariables false

theorem mtake_ne {l m : List Mk} {k : Nat} {c d : Mk} (hc : l[k]? = some c) (hd : m[k]? = some d) (hcd : c ≠ d) : l ≠ m := by
  rintro rfl; rw [hc] at hd; exact hcd (Option.some.inj hd)
theorem msame_step {l m : List Mk} {k : Nat} {c d : Mk} (hc : l[k]? = some c) (hd : m[k]? = some d) (h : l.take k = m.take k) (hcd : c = d) : l.take (k + 1) = m.take (k + 1) := by
  rw [List.take_add_one, List.take_add_one, hc, hd, h, hcd]

set_option maxHeartbeats 800000 in
theorem rmsame_any (a1 : Option Addr) (n1 c1 : Nat) (l1 : List Mk) (a2 : Option Addr) (n2 c2 : Nat) (l2 : List Mk) (w : World) (r1 : RowAt w a1 n1 c1 2 (l1.flatMap Mk.cells)) (r2 : RowAt w a2 n2 c2 2 (l2.flatMap Mk.cells)) :
    Calls Tryd.prog 25 #[.slice a1 n1 c1, .slice a2 n2 c2] w fun e w' => e = .returned (.bool (decide (l1 = l2))) ∧ Still w w' := by
  have e1 : l1.length = n1 := by have := r1.1; rw [M_len] at this; omega
  have e2 : l2.length = n2 := by have := r2.1; rw [M_len] at this; omega
  have m1 := r1.2.2.1
  have m2 := r1.2.1
  unfold maxLen at m1
  by_cases hn : n1 = n2
  · subst hn
    have H2 := Lib.hid e2; clear e2
    have H1 := Lib.hid e1; clear e1
    go_enter Tryd.func25, Tryd.ntmps25
    go_wp2_with fail
    go_loopw [13] (fun iv wr => ∃ k : Nat, iv = .int .i64 (k : Int) ∧ k ≤ n1 ∧ Hid (l1.take k = l2.take k) ∧ Still w wr) (fun iv _ => n1 - (intOf iv).toNat)
    case atStart => exact ⟨0, rfl, Nat.zero_le _, Lib.hid rfl, Still.refl _⟩
    case round =>
      obtain ⟨k, rfl, hk, HT, hst⟩ := hrel
      by_cases hlt : k < n1
      · obtain ⟨b1, o1, x1, rfl, hx1, hc1, hd1⟩ := mk_at (r1.still hst) k hlt
        obtain ⟨b2, o2, x2, rfl, hx2, hc2, hd2⟩ := mk_at (r2.still hst) k hlt
        have HX1 := Lib.hid hx1; clear hx1
        have HX2 := Lib.hid hx2; clear hx2
        have hlt' : (k : Int) < (n1 : Int) := by omega
        by_cases hcd : x1 = x2
        · subst hcd
          go_wp2_with fail
          go_quiet (fail)
          go_wp2_with fail
          go_roundw
          case rel => exact ⟨k + 1, by go_num, by omega, Lib.hid (msame_step HX1.out HX2.out HT.out rfl), hst.trans (Still.one _ _)⟩
          case measure => simp [intOf]; omega
        · have HN := Lib.hid (mtake_ne HX1.out HX2.out hcd)
          by_cases hs : x1.s = x2.s
          · have hb1 : (x1.s == x2.s) = true := by simpa using hs
            have hb2 : (x1.a == x2.a) = false := by
              rw [beq_eq_false_iff_ne]; intro h; exact hcd (by cases x1; cases x2; simp_all)
            clear hs hcd
            go_wp2_with fail
            go_quiet (fail)
            go_wp2_with fail
            go_ret
            exact ⟨ret_bool (decide_eq_false HN.out).symm, hst.trans (Still.one _ _)⟩
          · have hb1 : (x1.s == x2.s) = false := by simpa using hs
            clear hs hcd
            go_wp2_with fail
            go_quiet (fail)
            go_wp2_with fail
            go_ret
            exact ⟨ret_bool (decide_eq_false HN.out).symm, hst.trans (Still.one _ _)⟩
      · go_wp2_with fail
        go_ret
        refine ⟨ret_bool ?_, hst⟩
        have ht := HT.out
        rw [List.take_of_length_le (by have := H1.out; omega), List.take_of_length_le (by have := H2.out; omega)] at ht
        rw [ht]; simp
  · have hb : ((n1 : Int) != (n2 : Int)) = true := by rw [bne_iff_ne]; omega
    have HN : Hid (l1 ≠ l2) := Lib.hid (by rintro rfl; omega)
    clear e1 e2
    go_enter Tryd.func25, Tryd.ntmps25
    go_wp2_with fail
    go_ret
    exact ⟨ret_bool (decide_eq_false HN.out).symm, Still.refl _⟩
end Go.Proofs.YtffhejaeliphcaaDoor

namespace Go.Proofs.YtffhejaeliphcaaDoor
open Go.RowKit
set_option linter.unusedVariables false

theorem upTo_mark (m : Mk) (t : Int) (b0 : Nat) (w : World) (hc0 : w.cell? ⟨b0, 0, none⟩ = some (.int .i64 t)) : Calls Tryd.prog 50 #[.agg #[.int .i64 m.s, .int .i64 m.a], .pointer (some ⟨b0, 0, none⟩)] w fun e w' => e = .returned (.bool (decide (m.s ≤ t))) ∧ Below w.heap.size w w' := by
  have hlt := World.block_lt_of_cell? w _ hc0
  have hc1 : (w.alloc (.cells #[.int .i64 m.s, .int .i64 m.a] 67)).cell? ⟨b0, 0, none⟩ = some (.int .i64 t) := (World.cell?_of_block ((below_made w _).block _ hlt)).trans hc0
  go_enter Tryd.func50, Tryd.ntmps50
  go_wp2_with fail
  go_ret
  exact ⟨rfl, below_made w _⟩

/-- What Last has found: l of the first are in, the next one is out. -/
def LastIs (ms : List Mk) (t : Int) (n l : Nat) : Prop := l ≤ n ∧ (∀ x, ms[l]? = some x → t < x.s) ∧ (∀ x, 0 < l → ms[l - 1]? = some x → x.s ≤ t)

set_option maxHeartbeats 400000 in
theorem mark_last (t : Int) (b0 : Nat) (a : Option Addr) (n c : Nat) (ms : List Mk) (w : World) (hc0 : w.cell? ⟨b0, 0, none⟩ = some (.int .i64 t)) (r : RowAt w a n c 2 (ms.flatMap Mk.cells)) (hn : n ≤ 140737488351232) :
    Calls Tryd.prog 49 #[.slice a n c, .func (.func 50) #[] #[.pointer (some ⟨b0, 0, none⟩)]] w fun e w' => (∃ l : Nat, e = .returned (.int .i64 ((l : Int) - 1)) ∧ LastIs ms t n l) ∧ Below w.heap.size w w' := by
  have hml : ms.length = n := by have := r.1; rw [M_len] at this; omega
  have hl0 := World.block_lt_of_cell? w _ hc0
  simp only at hl0
  go_enter Tryd.func49, Tryd.ntmps49
  go_wp2_with fail
  go_loopw [5, 6] (fun lv hv wr => ∃ l h : Nat, lv = .int .i64 ((l : Int) - 1) ∧ hv = .int .i64 (h : Int) ∧ l ≤ h ∧ h ≤ n ∧ (∀ x, ms[h]? = some x → t < x.s) ∧ (∀ x, 0 < l → ms[l - 1]? = some x → x.s ≤ t) ∧ Below w.heap.size w wr) (fun lv hv _ => (intOf hv).toNat - ((intOf lv) + 1).toNat)
  case atStart => exact ⟨0, n, rfl, rfl, Nat.zero_le _, Nat.le_refl _, (fun x hx => by rw [List.getElem?_eq_none (by omega)] at hx; cases hx), (fun x h0 => by omega), Below.refl _ _⟩
  case round =>
    obtain ⟨l, h, rfl, rfl, hlh, hhn, hH, hL, hb⟩ := hrel
    by_cases hlt : l < h
    · obtain ⟨m, hm⟩ : ∃ m : Nat, (l + h - 1) / 2 = m := ⟨_, rfl⟩
      have hm1 : l ≤ m := by omega
      have hm2 : m < h := by omega
      have hmi : ((l : Int) - 1 + (h : Int)) / 2 = (m : Int) := by omega
      have hgt : (1 : Int) < (h : Int) - ((l : Int) - 1) := by omega
      obtain ⟨b, off, x, rfl, hx, hx0, hx1⟩ := mk_at (r.below hb) m (by omega)
      have hcr : wr.cell? ⟨b0, 0, none⟩ = some (.int .i64 t) := (World.cell?_of_block (hb.block _ hl0)).trans hc0
      by_cases hp : x.s ≤ t
      all_goals
        have hd : decide (x.s ≤ t) = decide (x.s ≤ t) := rfl
        go_wp2_with (go_at_call 50; refine (upTo_mark x t b0 _ hcr).mono ?_; rintro e w2 ⟨rfl, hb2⟩)
      · go_roundw
        case rel => exact ⟨m + 1, h, by go_num, rfl, by omega, hhn, hH, (fun y _ hy => by rw [Nat.add_sub_cancel, hx] at hy; cases hy; omega), below_next hb hb2⟩
        case measure => simp [intOf]; omega
      · go_roundw
        case rel => exact ⟨l, m, rfl, rfl, hm1, by omega, (fun y hy => by rw [hx] at hy; cases hy; omega), hL, below_next hb hb2⟩
        case measure => simp [intOf]; omega
    · obtain rfl : l = h := by omega
      have hgt : ¬ (1 : Int) < (l : Int) - ((l : Int) - 1) := by omega
      go_wp2_with fail
      go_ret
      exact ⟨⟨l, rfl, hhn, hH, hL⟩, hb⟩

/-- What Seek gives, by how many of the first are at or ahead of the number. -/
def foundV (ms : List Mk) (l : Nat) : Value := if l = 0 then .tuple #[.agg #[.int .i64 0, .int .i64 0], .bool false] else .tuple #[.agg #[.int .i64 (ms.getD (l - 1) ⟨0, 0⟩).s, .int .i64 (ms.getD (l - 1) ⟨0, 0⟩).a], .bool true]

set_option maxHeartbeats 400000 in
theorem seek_any (a : Option Addr) (n c : Nat) (ms : List Mk) (t : Int) (w : World) (r : RowAt w a n c 2 (ms.flatMap Mk.cells)) (hn : n ≤ 140737488351232) :
    Calls Tryd.prog 26 #[.slice a n c, .int .i64 t] w fun e w' => (∃ l : Nat, e = .returned (foundV ms l) ∧ LastIs ms t n l) ∧ Below w.heap.size w w' := by
  have hmf : ∀ (fn : Fn) (first cap : Array Value) (w : World), (Instr.makeFunc fn first cap).run Tryd.prog w = .ok (.func fn first cap) w := fun _ _ _ _ => rfl
  go_enter Tryd.func26, Tryd.ntmps26
  go_wp2_with fail
  have hml : ms.length = n := by have := r.1; rw [M_len] at this; omega
  have hbx : Below w.heap.size w ((w.alloc (.cells #[.int .i64 t] 3)).alloc (.cells #[.int .i64 0, .int .i64 0] 67)) := below_next (below_made _ _) (below_made _ _)
  have h0 : ((w.alloc (.cells #[.int .i64 t] 3)).alloc (.cells #[.int .i64 0, .int .i64 0] 67)).heap[w.heap.size]? = some (.cells #[.int .i64 t] 3) := by
    rw [Below.heap_alloc _ _ _ (by simp)]; exact heap_alloc_new w _
  have h1 : ((w.alloc (.cells #[.int .i64 t] 3)).alloc (.cells #[.int .i64 0, .int .i64 0] 67)).heap[w.heap.size + 1]? = some (.cells #[.int .i64 0, .int .i64 0] 67) := by
    have := heap_alloc_new (w.alloc (.cells #[.int .i64 t] 3)) (.cells #[.int .i64 0, .int .i64 0] 67)
    simpa using this
  have hsz : ((w.alloc (.cells #[.int .i64 t] 3)).alloc (.cells #[.int .i64 0, .int .i64 0] 67)).heap.size = w.heap.size + 2 := by simp
  obtain ⟨w1, hw1⟩ : ∃ w1, ((w.alloc (.cells #[.int .i64 t] 3)).alloc (.cells #[.int .i64 0, .int .i64 0] 67)) = w1 := ⟨_, rfl⟩
  rw [hw1] at hbx h0 h1 hsz ⊢
  clear hw1
  have hc0 := cell_of_one h0
  (with_reducible refine (mark_last t _ _ _ _ ms _ hc0 (r.below hbx) hn).mono ?_)
  rintro e w2 ⟨⟨l, rfl, hl⟩, hb2⟩
  have h2 : w2.heap[w.heap.size + 1]? = some (.cells #[.int .i64 0, .int .i64 0] 67) := (hb2.block _ (by omega)).trans h1
  have hb3 := below_next hbx hb2
  have g0 := cell_two0 h2
  have g1 := cell_two1 h2
  have f0 := free_two0 h2
  have f1 := free_two1 h2
  have HL := Lib.hid hl
  have hln := hl.1
  clear hl
  by_cases hl0 : l = 0
  · have hd : (l : Int) - 1 < 0 := by omega
    have hs0 := two_set0 (u := .int .i64 0) h2
    have k1 := free_two1 hs0
    have hs1 := two_set1 (u := .int .i64 0) hs0
    have d0 := cell_two0 hs1
    have d1 := cell_two1 hs1
    have hbs := (hb3.setCell (p := ⟨w.heap.size + 1, 0, none⟩) (Nat.le_succ _) (.int .i64 0)).setCell (p := ⟨w.heap.size + 1, 1, none⟩) (Nat.le_succ _) (.int .i64 0)
    clear hs0 hs1 h2 h1 h0
    go_wp2_with fail
    subst hl0
    exact bodyPost_ret (v := foundV ms 0) (by simp [results, Tryd.results26, go_sem, foundV, d0, d1]) rfl ⟨⟨0, rfl, HL.out⟩, hbs⟩
  · obtain ⟨j, rfl⟩ : ∃ j, l = j + 1 := ⟨l - 1, by omega⟩
    obtain ⟨b, off, m, rfl, hm, x0, x1⟩ := mk_at (r.below hb3) j (by omega)
    have hd : ¬ ((j + 1 : Nat) : Int) - 1 < 0 := by omega
    have hj : ((j + 1 : Nat) : Int) - 1 = (j : Int) := by omega
    have hs0 := two_set0 (u := .int .i64 m.s) h2
    have k1 := free_two1 hs0
    have hs1 := two_set1 (u := .int .i64 m.a) hs0
    have d0 := cell_two0 hs1
    have d1 := cell_two1 hs1
    have hbs := (hb3.setCell (p := ⟨w.heap.size + 1, 0, none⟩) (Nat.le_succ _) (.int .i64 m.s)).setCell (p := ⟨w.heap.size + 1, 1, none⟩) (Nat.le_succ _) (.int .i64 m.a)
    have HM : Hid (ms[j]? = some m) := Lib.hid hm
    clear hs0 hs1 h2 h1 h0 hm
    go_wp2_with fail
    exact bodyPost_ret (v := foundV ms (j + 1)) (by simp [results, Tryd.results26, go_sem, foundV, d0, d1, HM.out]) rfl ⟨⟨j + 1, rfl, HL.out⟩, hbs⟩

theorem okFrom_all : ∀ (l : List Mk) (p : Mk), okFrom p l = true ↔ (∀ x ∈ l, p.s < x.s ∧ p.a < x.a ∧ x.s ≤ 1099511627776 ∧ x.a ≤ 1099511627776) ∧ l.Pairwise (fun x y => x.s < y.s ∧ x.a < y.a)
  | [], p => by simp [okFrom]
  | m :: r, p => by
    rw [okFrom, Bool.and_eq_true, okFrom_all r m, List.pairwise_cons, decide_eq_true_iff]
    constructor
    · rintro ⟨⟨h1, h2, h3, h4⟩, h5, h6⟩
      refine ⟨fun x hx => ?_, fun x hx => ⟨(h5 x hx).1, (h5 x hx).2.1⟩, h6⟩
      rcases List.mem_cons.1 hx with rfl | hx
      · exact ⟨h1, h2, h3, h4⟩
      · have := h5 x hx; omega
    · rintro ⟨h1, h2, h3⟩
      refine ⟨h1 m List.mem_cons_self, fun x hx => ?_, h3⟩
      have := h1 x (List.mem_cons_of_mem _ hx)
      have := h2 x hx
      omega

theorem okN_iff (ms : List Mk) : okN ms = true ↔ ms.length ≤ 512 ∧ (∀ x ∈ ms, 0 < x.s ∧ -1 < x.a ∧ x.s ≤ 1099511627776 ∧ x.a ≤ 1099511627776) ∧ ms.Pairwise (fun x y => x.s < y.s ∧ x.a < y.a) := by
  unfold okN; rw [Bool.and_eq_true, okFrom_all, decide_eq_true_iff]

theorem pair_at {ms : List Mk} (h : ms.Pairwise (fun x y => x.s < y.s ∧ x.a < y.a)) {i j : Nat} {x y : Mk} (hij : i < j) (hx : ms[i]? = some x) (hy : ms[j]? = some y) : x.s < y.s ∧ x.a < y.a := by
  obtain ⟨hi, rfl⟩ := List.getElem?_eq_some_iff.1 hx
  obtain ⟨hj, rfl⟩ := List.getElem?_eq_some_iff.1 hy
  exact List.pairwise_iff_getElem.1 h i j hi hj hij
end Go.Proofs.YtffhejaeliphcaaDoor

namespace Go.Proofs.YtffhejaeliphcaaDoor
open Go.RowKit
set_option linter.unusedVariables false

set_option maxHeartbeats 800000 in
theorem meq_any (a1 : Option Addr) (n1 c1 : Nat) (l1 : List Mk) (a2 : Option Addr) (n2 c2 : Nat) (l2 : List Mk) (w : World) (r1 : RowAt w a1 n1 c1 2 (l1.flatMap Mk.cells)) (r2 : RowAt w a2 n2 c2 2 (l2.flatMap Mk.cells)) :
    Calls Tryd.prog 36 #[.slice a1 n1 c1, .slice a2 n2 c2] w fun e w' => e = .returned (.bool (decide (l1 = l2))) ∧ Still w w' := by
  have e1 : l1.length = n1 := by have := r1.1; rw [M_len] at this; omega
  have e2 : l2.length = n2 := by have := r2.1; rw [M_len] at this; omega
  have m1 := r1.2.2.1
  have m2 := r1.2.1
  unfold maxLen at m1
  by_cases hn : n1 = n2
  · subst hn
    have H2 := Lib.hid e2; clear e2
    have H1 := Lib.hid e1; clear e1
    go_enter Tryd.func36, Tryd.ntmps36
    go_wp2_with fail
    go_loopw [13] (fun iv wr => ∃ k : Nat, iv = .int .i64 (k : Int) ∧ k ≤ n1 ∧ Hid (l1.take k = l2.take k) ∧ Still w wr) (fun iv _ => n1 - (intOf iv).toNat)
    case atStart => exact ⟨0, rfl, Nat.zero_le _, Lib.hid rfl, Still.refl _⟩
    case round =>
      obtain ⟨k, rfl, hk, HT, hst⟩ := hrel
      by_cases hlt : k < n1
      · obtain ⟨b1, o1, x1, rfl, hx1, hc1, hd1⟩ := mk_at (r1.still hst) k hlt
        obtain ⟨b2, o2, x2, rfl, hx2, hc2, hd2⟩ := mk_at (r2.still hst) k hlt
        have HX1 := Lib.hid hx1; clear hx1
        have HX2 := Lib.hid hx2; clear hx2
        have hlt' : (k : Int) < (n1 : Int) := by omega
        by_cases hcd : x1 = x2
        · subst hcd
          go_wp2_with fail
          go_quiet (fail)
          go_wp2_with fail
          go_roundw
          case rel => exact ⟨k + 1, by go_num, by omega, Lib.hid (msame_step HX1.out HX2.out HT.out rfl), hst.trans (Still.one _ _)⟩
          case measure => simp [intOf]; omega
        · have HN := Lib.hid (mtake_ne HX1.out HX2.out hcd)
          by_cases hs : x1.s = x2.s
          · have hb1 : (x1.s == x2.s) = true := by simpa using hs
            have hb2 : (x1.a == x2.a) = false := by
              rw [beq_eq_false_iff_ne]; intro h; exact hcd (by cases x1; cases x2; simp_all)
            clear hs hcd
            go_wp2_with fail
            go_quiet (fail)
            go_wp2_with fail
            go_ret
            exact ⟨ret_bool (decide_eq_false HN.out).symm, hst.trans (Still.one _ _)⟩
          · have hb1 : (x1.s == x2.s) = false := by simpa using hs
            clear hs hcd
            go_wp2_with fail
            go_quiet (fail)
            go_wp2_with fail
            go_ret
            exact ⟨ret_bool (decide_eq_false HN.out).symm, hst.trans (Still.one _ _)⟩
      · go_wp2_with fail
        go_ret
        refine ⟨ret_bool ?_, hst⟩
        have ht := HT.out
        rw [List.take_of_length_le (by have := H1.out; omega), List.take_of_length_le (by have := H2.out; omega)] at ht
        rw [ht]; simp
  · have hb : ((n1 : Int) != (n2 : Int)) = true := by rw [bne_iff_ne]; omega
    have HN : Hid (l1 ≠ l2) := Lib.hid (by rintro rfl; omega)
    clear e1 e2
    go_enter Tryd.func36, Tryd.ntmps36
    go_wp2_with fail
    go_ret
    exact ⟨ret_bool (decide_eq_false HN.out).symm, Still.refl _⟩
end Go.Proofs.YtffhejaeliphcaaDoor
