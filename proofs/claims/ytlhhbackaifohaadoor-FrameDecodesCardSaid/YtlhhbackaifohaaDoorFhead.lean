/-
  The walks of the reference's Same over frames and of the one answer that the statements of frames ask first. Conditions: the arguments read as bytes; the program's table of nibbles holds what its text lays.
-/
import Derived.Test.YtlhhbackaifohaaDoorFenc
import Derived.Test.YtlhhbackaifohaaDoorFdec
namespace Go.Proofs.YtlhhbackaifohaaDoor
open Go.RowKit
set_option linter.unusedVariables false

/-- Whether two frames are alike. -/
def frEq (k1 s1 : Int) (l1 : List UInt8) (k2 s2 : Int) (l2 : List UInt8) : Bool := decide (k1 = k2) && decide (s1 = s2) && (l1 == l2)
theorem frEq_refl (k s : Int) (l : List UInt8) : frEq k s l k s l = true := by simp [frEq]

set_option maxHeartbeats 800000 in
theorem fsame_any (k1 s1 : Int) (a1 : Option Addr) (n1 c1 : Nat) (l1 : List UInt8) (k2 s2 : Int) (a2 : Option Addr) (n2 c2 : Nat) (l2 : List UInt8) (w : World) (r1 : RowAt w a1 n1 c1 1 (l1.map B)) (r2 : RowAt w a2 n2 c2 1 (l2.map B)) :
    Calls Tryd.prog 19 #[.agg #[.int .i64 k1, .int .i64 s1, .slice a1 n1 c1], .agg #[.int .i64 k2, .int .i64 s2, .slice a2 n2 c2]] w fun e w' => e = .returned (.bool (frEq k1 s1 l1 k2 s2 l2)) ∧ Below w.heap.size w w' := by
  have hb := below_next (below_made w (.cells #[.int .i64 k1, .int .i64 s1, .slice a1 n1 c1] 29)) (below_made _ (.cells #[.int .i64 k2, .int .i64 s2, .slice a2 n2 c2] 29))
  have q1 := r1.below hb
  have q2 := r2.below hb
  by_cases hk : k1 = k2
  · by_cases hs : s1 = s2
    · have HR : Hid (frEq k1 s1 l1 k2 s2 l2 = (l1 == l2)) := Lib.hid (by unfold frEq; rw [decide_eq_true hk, decide_eq_true hs]; rfl)
      subst hk hs
      go_enter Tryd.func19, Tryd.ntmps19
      go_wp2_with fail
      (with_reducible refine (same_any _ _ _ l1 _ _ _ l2 _ q1 q2).mono ?_)
      rintro e w3 ⟨rfl, hst⟩
      go_wp2_with fail
      go_ret
      rw [HR.out]
      exact ⟨rfl, below_still hb hst⟩
    · have hb2 : (s1 == s2) = false := by simpa using hs
      have HR : Hid (frEq k1 s1 l1 k2 s2 l2 = false) := Lib.hid (by unfold frEq; rw [decide_eq_false hs]; simp)
      subst hk
      clear hs
      go_enter Tryd.func19, Tryd.ntmps19
      go_wp2_with fail
      go_ret
      rw [HR.out]
      exact ⟨rfl, hb⟩
  · have hb2 : (k1 == k2) = false := by simpa using hk
    have HR : Hid (frEq k1 s1 l1 k2 s2 l2 = false) := Lib.hid (by unfold frEq; rw [decide_eq_false hk]; simp)
    clear hk
    go_enter Tryd.func19, Tryd.ntmps19
    go_wp2_with fail
    go_ret
    rw [HR.out]
    exact ⟨rfl, hb⟩

theorem hf_at : (frameF 1 5 [0])[17]? = some 0x8d := by decide +kernel
theorem hf_len : (frameF 1 5 [0]).length = 21 := frameF_len _ _ _
theorem hf_enc : encF 1 5 [0] = (frameF 1 5 [0], 0) := rfl
theorem hf_dec : decF (frameF 1 5 [0]) = (⟨1, 5, [0]⟩, 21, 0) := by
  have := decF_laid (kind := 1) (seq := 5) (body := [0]) (by decide) (by decide) (by decide) (by decide) []
  rwa [List.append_nil] at this

set_option maxHeartbeats 800000 in
theorem fhead_any (w : World) (ht : Tab w) : Calls Tryd.prog 9 #[] w fun e w' => e = .returned (.bool true) ∧ Below w.heap.size w w' := by
  have HE := Lib.hid hf_enc
  have HD := Lib.hid hf_dec
  have HA := Lib.hid hf_at
  have HN := Lib.hid hf_len
  have r0 : RowAt (w.alloc (.cells #[.int .u8 0] 5)) (some ⟨w.heap.size, 0, none⟩) 1 1 1 (([0] : List UInt8).map B) := rowAt_lit w [.int .u8 0] 1 1 5 rfl (by decide)
  have hb0 := below_made w (.cells #[.int .u8 0] 5)
  have t0 := ht.below hb0
  obtain ⟨D, hD⟩ : ∃ D, frameF 1 5 [0] = D := ⟨_, rfl⟩
  rw [hD] at HE HD HA HN
  clear hD
  go_enter Tryd.func9, Tryd.ntmps9
  go_wp2_with fail
  (with_reducible refine (fenc_any 1 5 _ _ _ [0] _ r0 t0).mono ?_)
  rintro e w1 ⟨a1, c1, rfl, ho1, hb1⟩
  rw [HE.out] at ho1 ⊢
  simp only at ho1 ⊢
  rw [HN.out] at ho1 ⊢
  have t1 := t0.below hb1
  have r1 := own_rowAt ho1
  have hb2 := below_next hb0 hb1
  clear ho1 hb0 hb1 r0 t0
  go_wp2_with fail
  (with_reducible refine (fdec_any _ _ _ D _ r1 t1).mono ?_)
  rintro e w2 ⟨a2, c2, rfl, ho2, hb3⟩
  rw [HD.out] at ho2 ⊢
  simp only at ho2 ⊢
  have r2 := r1.below hb3
  have hb4 := below_next hb2 hb3
  have hbm := below_made w2 (.cells #[.int .i64 1, .int .i64 5, .slice a2 1 c2] 29)
  have r3 := r2.below hbm
  have hb5 := below_next hb4 hbm
  obtain ⟨b, o, x, rfl, hx, hc⟩ := r3.byte 17 (by decide)
  have hx8 : x = 0x8d := by have := HA.out; rw [this] at hx; exact (Option.some.inj hx).symm
  have hc' : (w2.alloc (.cells #[.int .i64 1, .int .i64 5, .slice a2 1 c2] 29)).cell? ⟨b, o + 17, none⟩ = some (.int .u8 141) := by rw [hc, hx8]; rfl
  have i17 : (17 : Int) < 21 := by decide
  clear hc hx hx8 ho2 r1 r2 r3 hb2 hb3 hb4 hbm
  go_wp2_with fail
  go_ret
  exact ⟨rfl, hb5⟩
end Go.Proofs.YtlhhbackaifohaaDoor
