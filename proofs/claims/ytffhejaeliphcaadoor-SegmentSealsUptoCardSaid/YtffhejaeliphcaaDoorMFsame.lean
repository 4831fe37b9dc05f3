/-
  The walk of the reference's Same of two frames. No condition.
-/
import Derived.Test.YtffhejaeliphcaaDoorMFdec
namespace Go.Proofs.YtffhejaeliphcaaDoor
open Go.RowKit
set_option linter.unusedVariables false

/-- Whether two frames are alike. -/
def frEq (k1 s1 : Int) (l1 : List UInt8) (k2 s2 : Int) (l2 : List UInt8) : Bool := decide (k1 = k2) && decide (s1 = s2) && (l1 == l2)
theorem frEq_refl (k s : Int) (l : List UInt8) : frEq k s l k s l = true := by simp [frEq]

set_option maxHeartbeats 800000 in
theorem fsame_any (k1 s1 : Int) (a1 : Option Addr) (n1 c1 : Nat) (l1 : List UInt8) (k2 s2 : Int) (a2 : Option Addr) (n2 c2 : Nat) (l2 : List UInt8) (w : World) (r1 : RowAt w a1 n1 c1 1 (l1.map B)) (r2 : RowAt w a2 n2 c2 1 (l2.map B)) :
    Calls Tryd.prog 38 #[.agg #[.int .i64 k1, .int .i64 s1, .slice a1 n1 c1], .agg #[.int .i64 k2, .int .i64 s2, .slice a2 n2 c2]] w fun e w' => e = .returned (.bool (frEq k1 s1 l1 k2 s2 l2)) ∧ Below w.heap.size w w' := by
  have hb := below_next (below_made w (.cells #[.int .i64 k1, .int .i64 s1, .slice a1 n1 c1] 53)) (below_made _ (.cells #[.int .i64 k2, .int .i64 s2, .slice a2 n2 c2] 53))
  have q1 := r1.below hb
  have q2 := r2.below hb
  by_cases hk : k1 = k2
  · by_cases hs : s1 = s2
    · have HR : Hid (frEq k1 s1 l1 k2 s2 l2 = (l1 == l2)) := Lib.hid (by unfold frEq; rw [decide_eq_true hk, decide_eq_true hs]; rfl)
      subst hk hs
      go_enter Tryd.func38, Tryd.ntmps38
      go_wp2_with fail
      (with_reducible refine (same_any _ _ _ l1 _ _ _ l2 _ q1 q2).mono ?_)
      rintro e w3 ⟨rfl, hst⟩
      go_wp2_with fail
      go_ret
      rw [HR.out]
      exact ⟨rfl, below_still hb hst⟩
    · have hb2 : (s1 == s2) = false := by simpa using hs
      have HR : Hid (frEq k1 s1 l1 k2 s2 l2 = false) := Lib.hid (by unfold frEq; rw [decide_eq_false hs]; simp)
      subst hk
      clear hs
      go_enter Tryd.func38, Tryd.ntmps38
      go_wp2_with fail
      go_ret
      rw [HR.out]
      exact ⟨rfl, hb⟩
  · have hb2 : (k1 == k2) = false := by simpa using hk
    have HR : Hid (frEq k1 s1 l1 k2 s2 l2 = false) := Lib.hid (by unfold frEq; rw [decide_eq_false hk]; simp)
    clear hk
    go_enter Tryd.func38, Tryd.ntmps38
    go_wp2_with fail
    go_ret
    rw [HR.out]
    exact ⟨rfl, hb⟩
end Go.Proofs.YtffhejaeliphcaaDoor
