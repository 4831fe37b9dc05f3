/-
  Marks in memory, and the walks that read them: Valid, the reference's Valid, Same, copyOf. Condition: the slice reads as a list of marks.
-/
import Derived.Test.YtgdepgfipocdcaaBytes
import Derived.Test.YtgdepgfipocdcaaLawDeep
import Derived.Test.YtgdepgfipocdcaaTwo
namespace Go.Proofs.Ytgdepgfipocdcaa
open Go.RowKit
set_option linter.unusedVariables false

/-- A mark: a number and a place. -/
structure Mk where
  s : Int
  a : Int
deriving DecidableEq
instance : Inhabited Mk := ⟨⟨0, 0⟩⟩
def Mk.cells (m : Mk) : List Value := [.int .i64 m.s, .int .i64 m.a]

theorem mk_at {w : World} {a : Option Addr} {n c : Nat} {ms : List Mk} (h : RowAt w a n c 2 (ms.flatMap Mk.cells)) (j : Nat) (hj : j < n) :
    ∃ b off m, a = some ⟨b, off, none⟩ ∧ ms[j]? = some m ∧ w.cell? ⟨b, off + j * 2, none⟩ = some (.int .i64 m.s) ∧ w.cell? ⟨b, off + j * 2 + 1, none⟩ = some (.int .i64 m.a) := by
  obtain ⟨b, off, u, ha, hu, hc⟩ := h.at (j * 2) (by omega)
  obtain ⟨b', off', u', ha', hu', hc'⟩ := h.at (j * 2 + 1) (by omega)
  rw [ha] at ha'; cases ha'
  obtain ⟨i, r, x, h1, h2, h3, h4⟩ := flat_get (k := 2) Mk.cells (fun _ => rfl) ms _ u hu
  obtain ⟨i', r', x', h1', h2', h3', h4'⟩ := flat_get (k := 2) Mk.cells (fun _ => rfl) ms _ u' hu'
  obtain rfl : r = 0 := by omega
  obtain rfl : r' = 1 := by omega
  obtain rfl : i = j := by omega
  obtain rfl : i' = i := by omega
  rw [h1] at h1'; cases h1'
  simp [Mk.cells] at h4 h4'
  exact ⟨b, off, x, ha, h1, by rw [hc, ← h4], by rw [← Nat.add_assoc] at hc'; rw [hc', ← h4']⟩

/-- The last of the first k; what stands ahead of the first. -/
def lastOf (ms : List Mk) (k : Nat) : Mk := if k = 0 then ⟨0, -1⟩ else ms.getD (k - 1) ⟨0, 0⟩

/-- Marks make an index, from a last one on. -/
def okFrom : Mk → List Mk → Bool
  | _, [] => true
  | p, m :: r => decide (p.s < m.s ∧ p.a < m.a ∧ m.s ≤ 1099511627776 ∧ m.a ≤ 1099511627776) && okFrom m r
def okN (ms : List Mk) : Bool := decide (ms.length ≤ 512) && okFrom ⟨0, -1⟩ ms

theorem okFrom_at (ms : List Mk) (k : Nat) (p m : Mk) (h : ms[k]? = some m) : okFrom p (ms.drop k) = (decide (p.s < m.s ∧ p.a < m.a ∧ m.s ≤ 1099511627776 ∧ m.a ≤ 1099511627776) && okFrom m (ms.drop (k + 1))) := by
  obtain ⟨hk, hm⟩ := List.getElem?_eq_some_iff.1 h
  rw [List.drop_eq_getElem_cons hk, hm]; rfl

set_option maxHeartbeats 400000 in
theorem valid_any (a : Option Addr) (n c : Nat) (ms : List Mk) (w : World) (r : RowAt w a n c 2 (ms.flatMap Mk.cells)) :
    Calls Try.prog 15 #[.slice a n c] w fun e w' => e = .returned (.bool (okN ms)) ∧ Below w.heap.size w w' := by
  have hml : ms.length = n := by have := r.1; rw [flat_length (k := 2) Mk.cells (fun _ => rfl)] at this; omega
  by_cases h512 : n ≤ 512
  · have hd : ¬ (512 : Int) < (n : Int) := by omega
    have hok : Hid (okN ms = okFrom ⟨0, -1⟩ (ms.drop 0)) := Lib.hid (by unfold okN; rw [hml, List.drop_zero]; simp [h512])
    go_enter Try.func15, Try.ntmps15
    go_wp2_with fail
    go_loopw [12] (fun iv wr => ∃ (k : Nat) (p : Mk) (e : TypeId), iv = .int .i64 (k : Int) ∧ k ≤ n ∧ wr.heap[w.heap.size]? = some (.cells #[.int .i64 p.s, .int .i64 p.a] e (0, 0)) ∧ Hid (okN ms = okFrom p (ms.drop k)) ∧ Below w.heap.size w wr) (fun iv _ => n - (intOf iv).toNat)
    case atStart => exact ⟨0, ⟨0, -1⟩, _, rfl, Nat.zero_le _, heap_alloc_new w _, hok, below_made w _⟩
    case round =>
      obtain ⟨k, p, e, rfl, hk, hg, HO, hb⟩ := hrel
      by_cases hlt : k < n
      · obtain ⟨b, off, m, rfl, hm, hc0, hc1⟩ := mk_at (r.below hb) k hlt
        have HA := Lib.hid (okFrom_at ms k p m hm)
        have hga : (wr.alloc (.cells #[.int .i64 m.s, .int .i64 m.a] 31)).heap[w.heap.size]? = some (.cells #[.int .i64 p.s, .int .i64 p.a] e (0, 0)) := by
          rw [Below.heap_alloc _ _ _ (by have := lt_of_block hg; omega)]; exact hg
        have g0 := cell_two0 hga
        have g1 := cell_two1 hga
        have f0 := free_two0 hga
        have f1 := free_two1 hga
        have hs0 := two_set0 (u := .int .i64 m.s) hga
        have f2 := free_two1 hs0
        have c2 := cell_two1 hs0
        have hs1 := two_set1 (u := .int .i64 m.a) hs0
        have hbn := below_next hb (below_made wr (.cells #[.int .i64 m.s, .int .i64 m.a] 31))
        have hbs := (hbn.setCell (p := ⟨w.heap.size, 0, none⟩) (Nat.le_refl _) (.int .i64 m.s)).setCell (p := ⟨w.heap.size, 1, none⟩) (Nat.le_refl _) (.int .i64 m.a)
        clear hs0 hga
        go_wp2_with fail
        all_goals first
          | (go_ret; exact ⟨ret_bool (by rw [HO.out, HA.out, decide_eq_false (by omega)]; rfl), hbn⟩)
          | (go_roundw
             case rel => exact ⟨k + 1, m, e, by go_num, by omega, hs1, Lib.hid (by rw [HO.out, HA.out, decide_eq_true (by omega), Bool.true_and]), hbs⟩
             case measure => simp [intOf]; omega)
      · obtain rfl : k = n := by omega
        have hlk : ¬ (k : Int) < (k : Int) := by omega
        go_wp2_with fail
        go_ret
        exact ⟨ret_bool (by rw [HO.out, List.drop_eq_nil_of_le (by omega)]; rfl), hb⟩
  · have hd : (512 : Int) < (n : Int) := by omega
    have hok : okN ms = false := by unfold okN; rw [hml]; simp [h512]
    go_enter Try.func15, Try.ntmps15
    go_wp2_with fail
    go_ret
    exact ⟨ret_bool hok.symm, Below.refl _ _⟩
end Go.Proofs.Ytgdepgfipocdcaa
