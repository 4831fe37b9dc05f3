/-
  The walks of Check and of the reference's Check, at any version and any event. No condition.
-/
import Derived.Test.YtkdpingniohfhaaDoorMYchk1
import Derived.Test.YtkdpingniohfhaaDoorMYchk2
import Derived.Test.YtkdpingniohfhaaDoorMYchk3
import Derived.Test.YtkdpingniohfhaaDoorMYchk4
import Derived.Test.YtkdpingniohfhaaDoorMYchk5
import Derived.Test.YtkdpingniohfhaaDoorMTb
import Derived.Test.YtkdpingniohfhaaDoorMUr
import Derived.Test.YtkdpingniohfhaaDoorMUs
namespace Go.Proofs.YtkdpingniohfhaaDoor
open Go.RowKit
set_option linter.unusedVariables false

theorem ychk_none (v : Int) (e : Ev) (w : World) (h : v < 1 ∨ 5 < v) : Calls Tryd.prog 18 #[.int .i64 v, e.val] w (GivesC v e w) := by
  unfold GivesC
  rw [chk_none h]
  have hE : typV v e = .nilIface := by
    unfold typV; rw [if_neg (by omega), if_neg (by omega), if_neg (by omega), if_neg (by omega), if_neg (by omega)]
  have ht := fun wx => typed_any v e wx
  rw [hE] at ht
  unfold Ev.val Ev.cells at ht ⊢
  have HT := Lib.hid ht
  clear ht hE h
  go_enter Tryd.func18, Tryd.ntmps18
  go_wp2_with fail
  (with_reducible refine (HT.out _).mono ?_)
  rintro x w1 ⟨rfl, hb1⟩
  go_wp2_with fail
  go_ret
  exact ⟨rfl, below_next (below_made _ _) hb1⟩

theorem chk_any (v : Int) (e : Ev) (w : World) : Calls Tryd.prog 18 #[.int .i64 v, e.val] w (GivesC v e w) := by
  by_cases h : v < 1 ∨ 5 < v
  · exact ychk_none v e w h
  · have hc : v = 1 ∨ v = 2 ∨ v = 3 ∨ v = 4 ∨ v = 5 := by omega
    rcases hc with rfl | rfl | rfl | rfl | rfl
    · exact ychk1_any e w
    · exact ychk2_any e w
    · exact ychk3_any e w
    · exact ychk4_any e w
    · exact ychk5_any e w

theorem rchk_any (v : Int) (e : Ev) (w : World) : Calls Tryd.prog 29 #[.int .i64 v, e.val] w (GivesC v e w) := by
  unfold GivesC
  obtain ⟨k, o, i, q, p, c, t, u, s, n⟩ := e
  by_cases h : v < 1 ∨ 5 < v
  · rw [chk_none h]; exact rchk_none v k o i q p c t u s n w h
  · by_cases c1 : k < 1
    · rw [chk_low (e := ⟨k, o, i, q, p, c, t, u, s, n⟩) (by omega) (by omega) c1]; exact rchk_low v k o i q p c t u s n w (by omega) (by omega) c1
    by_cases c2 : lastK v < k
    · rw [chk_high (e := ⟨k, o, i, q, p, c, t, u, s, n⟩) (by omega) (by omega) c2]; exact rchk_high v k o i q p c t u s n w (by omega) (by omega) c2 (by omega)
    by_cases c3 : 16 < u.size ∨ 120 < n.size
    · rw [chk_who (e := ⟨k, o, i, q, p, c, t, u, s, n⟩) (by omega) (by omega) c1 (by show k ≤ lastK v; omega) c3]; exact rchk_big v k o i q p c t u s n w (by omega) (by omega) (by omega) (by omega) c3
    have hc : v = 1 ∨ v = 2 ∨ v = 3 ∨ v = 4 ∨ v = 5 := by omega
    rcases hc with rfl | rfl | rfl | rfl | rfl
    · exact rchk_t1 k o i q p c t u s n w (by omega) (by omega) (by omega) (by omega)
    · exact rchk_t2 k o i q p c t u s n w (by omega) (by omega) (by omega) (by omega)
    · exact rchk_t3 k o i q p c t u s n w (by omega) (by omega) (by omega) (by omega)
    · exact rchk_t4 k o i q p c t u s n w (by omega) (by omega) (by omega) (by omega)
    · exact rchk_t5 k o i q p c t u s n w (by omega) (by omega) (by omega) (by omega)
end Go.Proofs.YtkdpingniohfhaaDoor
