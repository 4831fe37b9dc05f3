/-
  The walks of the digests: New, Write, Sum, Len, Reset. Condition: the table of nibbles holds what the text lays.
-/
import Derived.Test.YtdcifghlgeiobaaDoorClaw1
namespace Go.Proofs.YtdcifghlgeiobaaDoor
open Go.RowKit
set_option linter.unusedVariables false

/-- A digest in memory. -/
def DigAt (w : World) (D s n : Nat) : Prop := ∃ e, w.heap[D]? = some (.cells #[.int .u32 (s : Int), .int .i64 (n : Int)] e (0, 0))

section
variable {w : World} {b : Nat} {x y u : Value} {t : TypeId}
theorem cell_two0 (h : w.heap[b]? = some (.cells #[x, y] t (0, 0))) : w.cell? ⟨b, 0, none⟩ = some x := by simp [World.cell?, h]
theorem cell_two1 (h : w.heap[b]? = some (.cells #[x, y] t (0, 0))) : w.cell? ⟨b, 1, none⟩ = some y := by simp [World.cell?, h]
theorem free_two0 (h : w.heap[b]? = some (.cells #[x, y] t (0, 0))) : w.frozen? ⟨b, 0, none⟩ = false := by simp [World.frozen?, h]
theorem free_two1 (h : w.heap[b]? = some (.cells #[x, y] t (0, 0))) : w.frozen? ⟨b, 1, none⟩ = false := by simp [World.frozen?, h]
theorem two_set0 (h : w.heap[b]? = some (.cells #[x, y] t (0, 0))) : (w.setCell ⟨b, 0, none⟩ u).heap[b]? = some (.cells #[u, y] t (0, 0)) := by
  have hlt := lt_of_block h
  have h' : w.heap[b] = .cells #[x, y] t (0, 0) := by simpa [Array.getElem?_eq_getElem hlt] using h
  show (w.heap.modify b _)[b]? = _
  rw [Array.getElem?_eq_getElem (by simpa using hlt), Array.getElem_modify_self, h']
  rfl
theorem two_set1 (h : w.heap[b]? = some (.cells #[x, y] t (0, 0))) : (w.setCell ⟨b, 1, none⟩ u).heap[b]? = some (.cells #[x, u] t (0, 0)) := by
  have hlt := lt_of_block h
  have h' : w.heap[b] = .cells #[x, y] t (0, 0) := by simpa [Array.getElem?_eq_getElem hlt] using h
  show (w.heap.modify b _)[b]? = _
  rw [Array.getElem?_eq_getElem (by simpa using hlt), Array.getElem_modify_self, h']
  rfl
theorem grown_set (w : World) (b o : Nat) (v : Value) : w.grownBy (w.setCell ⟨b, o, none⟩ v) (some b) :=
  ⟨rfl, rfl, rfl, by simp [World.setCell], fun i hi hne => Below.heap_setCell _ _ _ _ (fun e => hne (by rw [e]))⟩
end

theorem new_any (w : World) : Calls Tryd.prog 23 #[] w fun e w' => e = .returned (.pointer (some ⟨w.heap.size, 0, none⟩)) ∧ DigAt w' w.heap.size 0 0 ∧ Below w.heap.size w w' ∧ w.heap.size < w'.heap.size := by
  go_enter Tryd.func23, Tryd.ntmps23
  go_wp2_with fail
  go_ret
  exact ⟨rfl, ⟨_, heap_alloc_new w _⟩, below_made _ _, by simp⟩

theorem sum_dig (D s n : Nat) (w : World) (hd : DigAt w D s n) : Calls Tryd.prog 27 #[.pointer (some ⟨D, 0, none⟩)] w fun e w' => e = .returned (.int .u32 (s : Int)) ∧ w = w' := by
  obtain ⟨t, hd⟩ := hd
  have c0 := cell_two0 hd
  go_enter Tryd.func27, Tryd.ntmps27
  go_wp2_with fail
  go_ret
  exact ⟨rfl, rfl⟩
theorem len_dig (D s n : Nat) (w : World) (hd : DigAt w D s n) : Calls Tryd.prog 26 #[.pointer (some ⟨D, 0, none⟩)] w fun e w' => e = .returned (.int .i64 (n : Int)) ∧ w = w' := by
  obtain ⟨t, hd⟩ := hd
  have c0 := cell_two1 hd
  go_enter Tryd.func26, Tryd.ntmps26
  go_wp2_with fail
  go_ret
  exact ⟨rfl, rfl⟩

set_option maxHeartbeats 400000 in
theorem write_any (D s n : Nat) (a1 : Option Addr) (n1 c1 : Nat) (l : List UInt8) (w : World) (hs : s < 4294967296) (hd : DigAt w D s n) (hn : n + n1 < 2 ^ 62) (r1 : RowAt w a1 n1 c1 1 (l.map B)) (ht : Tab w) :
    Calls Tryd.prog 25 #[.pointer (some ⟨D, 0, none⟩), .slice a1 n1 c1] w fun e w' => (∃ v, e = .returned v) ∧ DigAt w' D (sumN s l) (n + n1) ∧ w.grownBy w' (some D) := by
  obtain ⟨t, hd⟩ := hd
  have c0 := cell_two0 hd
  have f0 := free_two0 hd
  have hd1 := two_set0 (u := .int .u32 ((sumN s l : Nat) : Int)) hd
  have hg1 := grown_set w D 0 (.int .u32 ((sumN s l : Nat) : Int))
  have c1 := cell_two1 hd1
  have f1 := free_two1 hd1
  have hd2 := two_set1 (u := .int .i64 ((n : Int) + (n1 : Int))) hd1
  have hg2 := grownBy_trans hg1 (grown_set _ D 1 (.int .i64 ((n : Int) + (n1 : Int))))
  clear hd hd1 hg1
  go_enter Tryd.func25, Tryd.ntmps25
  go_wp2_with fail
  (with_reducible refine (update_nat s _ _ _ l _ hs r1 ht).mono ?_)
  rintro e w' ⟨rfl, rfl⟩
  go_wp2_with fail
  go_end0
  exact ⟨⟨_, rfl⟩, ⟨_, by simpa using hd2⟩, hg2⟩

theorem write_nil (a1 : Option Addr) (n1 c1 : Nat) (w : World) :
    Calls Tryd.prog 25 #[.pointer none, .slice a1 n1 c1] w fun e w' => (∃ v, e = .returned v) ∧ w = w' := by
  go_enter Tryd.func25, Tryd.ntmps25
  go_wp2_with fail
  exact bodyPost_ret (results_none rfl _ _ _) rfl ⟨⟨_, rfl⟩, rfl⟩
theorem reset_nil (w : World) : Calls Tryd.prog 24 #[.pointer none] w fun e w' => (∃ v, e = .returned v) ∧ w = w' := by
  go_enter Tryd.func24, Tryd.ntmps24
  go_wp2_with fail
  go_end0
  exact ⟨⟨_, rfl⟩, rfl⟩
theorem sum_nil (w : World) : Calls Tryd.prog 27 #[.pointer none] w fun e w' => e = .returned (.int .u32 0) ∧ w = w' := by
  go_enter Tryd.func27, Tryd.ntmps27
  go_wp2_with fail
  go_ret
  exact ⟨rfl, rfl⟩
theorem len_nil (w : World) : Calls Tryd.prog 26 #[.pointer none] w fun e w' => e = .returned (.int .i64 0) ∧ w = w' := by
  go_enter Tryd.func26, Tryd.ntmps26
  go_wp2_with fail
  go_ret
  exact ⟨rfl, rfl⟩

theorem reset_any (D s n : Nat) (w : World) (hd : DigAt w D s n) : Calls Tryd.prog 24 #[.pointer (some ⟨D, 0, none⟩)] w fun e w' => (∃ v, e = .returned v) ∧ DigAt w' D 0 0 ∧ w.grownBy w' (some D) := by
  obtain ⟨t, hd⟩ := hd
  have c0 := cell_two0 hd
  have f0 := free_two0 hd
  have c1 := cell_two1 hd
  have f1 := free_two1 hd
  have hd1 := two_set0 (u := .int .u32 0) hd
  have c3 := cell_two1 hd1
  have f3 := free_two1 hd1
  have hd2 := two_set1 (u := .int .i64 0) hd1
  have hg2 := grownBy_trans (grown_set w D 0 (.int .u32 0)) (grown_set _ D 1 (.int .i64 0))
  clear hd hd1
  go_enter Tryd.func24, Tryd.ntmps24
  go_wp2_with fail
  go_end0
  exact ⟨⟨_, rfl⟩, ⟨_, hd2⟩, hg2⟩
end Go.Proofs.YtdcifghlgeiobaaDoor
