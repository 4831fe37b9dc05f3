/-
  Reading and bringing up, as data; rise at any version. Condition: the program's table of taxes holds what its text lays.
-/
import Derived.Test.YtkdpingniohfhaaDoorMUtc
import Derived.Test.YtkdpingniohfhaaDoorMSi
import Derived.Test.YtkdpingniohfhaaDoorMRunp6
namespace Go.Proofs.YtkdpingniohfhaaDoor
open Go.RowKit
set_option linter.unusedVariables false

/-- What Read gives. -/
def readE (l : List UInt8) : Ev × Int := if (unpF l).2.2 ≠ 0 then (zeroEv, (unpF l).2.2) else (Ev.steps (5 - (unpF l).1).toNat (unpF l).1 (unpF l).2.1, 0)
theorem unp_right {l : List UInt8} (h : (unpF l).2.2 = 0) : chk (unpF l).1 (unpF l).2.1 = 0 := by
  unfold unpF at h ⊢
  by_cases h1 : (dec l).2.2 ≠ 0
  · rw [if_pos h1] at h; simp only at h; omega
  · rw [if_neg h1] at h ⊢
    by_cases h2 : (sdecF (clampI (dec l).1) (l.drop (dec l).2.1)).2 ≠ 0
    · rw [if_pos h2] at h; exact absurd h h2
    · rw [if_neg h2] at h ⊢
      exact (dec_form (by simpa using h2)).2.2.1
theorem rise_all (v : Int) (e : Ev) (hr : chk v e = 0) (w : World) (ht : Tab w) : Calls Tryd.prog 13 #[.int .i64 v, e.val] w fun x w' => x = .returned (Ev.steps (5 - v).toNat v e).val ∧ Below w.heap.size w w' := by
  have hR0 := right_of hr
  have hc : v = 1 ∨ v = 2 ∨ v = 3 ∨ v = 4 ∨ v = 5 := by have := hR0.v1; have := hR0.v5; omega
  clear hr
  rcases hc with rfl | rfl | rfl | rfl | rfl
  · exact rise1 e w ht hR0
  · exact rise2 e w ht hR0
  · exact rise3 e w ht hR0
  · exact rise4 e w ht hR0
  · exact rise5 e w ht hR0
theorem to_five {v : Int} {e : Ev} (hr : chk v e = 0) : toE v 5 e = Ev.steps (5 - v).toNat v e ∧ toR v 5 e = 0 := to_ok (by have := (right_of hr).v5; omega) hr
end Go.Proofs.YtkdpingniohfhaaDoor
