/-
  The walk of the cursor's num: it reads a number, or panics with the error's number. Conditions: the cursor's block and its bytes.
-/
import Derived.Test.YtkdpingniohfhaaDoorMDn
import Derived.Test.YtkdpingniohfhaaDoorMTs
import Derived.Deep.RegionWith
namespace Go.Proofs.YtkdpingniohfhaaDoor
open Go.RowKit
set_option linter.unusedVariables false

/-- A cursor at a place. -/
def CurAt (w : World) (p : Nat) (a : Option Addr) (n c : Nat) (at' : Nat) : Prop := w.heap[p]? = some (.cells #[.slice a n c, .int .i64 (at' : Int)] 111 (0, 0))
/-- What the cursor's num does. -/
def CurNum (p : Nat) (a : Option Addr) (n c : Nat) (at' : Nat) (y : Nat × Nat × Nat) (w : World) (x : Ending) (w' : World) : Prop :=
  if y.2.2 = 0 then x = .returned (.int .u64 (y.1 : Int)) ∧ CurAt w' p a n c (at' + y.2.1) ∧ w.grownBy w' (some p)
  else x = .panicked [{ v := .iface 26 (.int .i64 (y.2.2 : Int)), recovered := false }] ∧ Still w w'

set_option maxHeartbeats 1600000 in
theorem cnum_any (p : Nat) (a : Option Addr) (n c : Nat) (at' : Nat) (l : List UInt8) (w : World) (hc : CurAt w p a n c at') (r : RowAt w a n c 1 (l.map B)) (hat : at' ≤ n) :
    Calls Tryd.prog 54 #[.pointer (some ⟨p, 0, none⟩)] w (CurNum p a n c at' (dec (l.drop at')) w) := by
  unfold CurAt at hc
  have c0 := cell_two0 hc
  have c1 := cell_two1 hc
  have f1 := free_two1 hc
  obtain ⟨a', hcut, r3⟩ := cut_from slB r at' hat
  rw [Nat.mul_one, ← List.map_drop] at r3
  obtain ⟨y, hy⟩ : ∃ y, dec (l.drop at') = y := ⟨_, rfl⟩
  obtain ⟨u, m, e⟩ := y
  have hbd := dec_bd (l.drop at')
  rw [hy] at hbd
  simp only [List.length_drop] at hbd
  obtain ⟨b1, b2, b3, b4⟩ := hbd
  have hln : l.length = n := by simpa using r.len
  have m1 := r.2.2.1
  have m2 := r.2.1
  unfold maxLen at m1
  have HV : Hid (decV (l.drop at') = .tuple #[.int .u64 (u : Int), .int .i64 (m : Int), .int .i64 (e : Int)]) := Lib.hid (by unfold decV; rw [hy])
  rw [hy]
  unfold CurNum
  simp only
  clear hy b1
  have b3' : at' + m ≤ n := by omega
  clear hln b3
  by_cases he : e = 0
  · subst he
    simp only [if_true]
    go_enter Tryd.func54, Tryd.ntmps54
    go_wp2_with fail
    go_region_with (go_at_call 19; refine (dec_any _ _ _ (l.drop at') _ (by first | exact rowAt_drew r3 | exact r3)).mono ?_; rintro x w2 ⟨rfl, rfl⟩; rw [HV.out])
    all_goals
      go_wp2_with fail
      go_ret
      exact ⟨rfl, (by have h2 : (w.setCell ⟨p, 1, none⟩ (.int .i64 ((at' : Int) + (m : Int)))).heap[p]? = _ := two_set1 hc; exact h2), ⟨rfl, rfl, rfl, (grown_set w p 1 _).size, fun k hk hne => (grown_set w p 1 _).block k hk hne⟩⟩
  · have he' : ((e : Int) != 0) = true := by rw [bne_iff_ne]; omega
    simp only [he, if_false]
    clear he
    go_enter Tryd.func54, Tryd.ntmps54
    go_wp2_with fail
    go_region_with (go_at_call 19; refine (dec_any _ _ _ (l.drop at') _ (by first | exact rowAt_drew r3 | exact r3)).mono ?_; rintro x w2 ⟨rfl, rfl⟩; rw [HV.out])
    all_goals
      go_wp2_with fail
      first
        | exact ⟨rfl, rfl, ⟨1, rfl⟩⟩
        | exact ⟨rfl, ⟨1, rfl⟩⟩
        | (simp only [bodyPost]; exact ⟨trivial, trivial, ⟨1, rfl⟩⟩)
end Go.Proofs.YtkdpingniohfhaaDoor
