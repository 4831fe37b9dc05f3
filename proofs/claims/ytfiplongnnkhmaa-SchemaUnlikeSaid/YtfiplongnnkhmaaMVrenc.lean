/-
  The walk of the reference's Encode, by induction: it gives what Encode gives. No condition beyond that the argument fits its kind.
-/
import Derived.Test.YtfiplongnnkhmaaMVenc
namespace Go.Proofs.Ytfiplongnnkhmaa
open Go.RowKit
set_option linter.unusedVariables false

set_option maxHeartbeats 400000 in
theorem renc_n (n : Nat) : ∀ (u : Int) (w : World), u.toNat ≤ n → 0 ≤ u → u < 18446744073709551616 →
    Calls Try.prog 41 #[.int .u64 u] w (GivesB 5 w (enc u.toNat)) := by
  induction n with
  | zero =>
    intro u w hn h0 hu
    go_enter Try.func41, Try.ntmps41
    go_wp2_with fail
    go_ret
    rw [enc_lt (show u.toNat < 128 by omega)]
    exact ⟨_, _, rfl, own_lit1 w _ (by have := byte_of u.toNat; omega), below_made _ _⟩
  | succ n ih =>
    intro u w hn h0 hu
    have IH := Lib.hid ih; clear ih
    by_cases hlt : u < 128
    · go_enter Try.func41, Try.ntmps41
      go_wp2_with fail
      go_ret
      rw [enc_lt (show u.toNat < 128 by omega)]
      exact ⟨_, _, rfl, own_lit1 w _ (by have := byte_of u.toNat; omega), below_made _ _⟩
    · have hl := enc_len10 (u / 128).toNat (by omega)
      go_enter Try.func41, Try.ntmps41
      go_wp2_with fail
      refine (IH.out (u / 128) _ (by omega) (by omega) (by omega)).mono ?_
      rintro e w1 ⟨a, cap, rfl, hown, hb⟩
      have ho1 := own_below (own_lit w [.int .u8 (128 + u % 128)] 1 1 5 rfl (by decide)) hb
      have hsz := hb.size
      simp at hsz
      go_wp2_with (at_builtin; refine wpList_app rfl _ _ 30 rfl slB rfl ho1 rfl (own_rowAt hown) (B_one _) (by omega) (by omega) fun a2 cap2 w2 hown2 hg2 => ?_)
      go_ret
      rw [enc_ge (show 128 ≤ u.toNat by omega), show u.toNat / 128 = (u / 128).toNat by omega]
      refine ⟨a2, cap2, by simp [Nat.add_comm], ?_, ?_⟩
      · have e : (128 + u % 128 : Int) = ((UInt8.ofNat (128 + u.toNat % 128)).toNat : Int) := by simp only [UInt8.toNat_ofNat']; omega
        rw [e] at hown2
        simpa [B, Nat.add_comm] using hown2
      · exact (below_next (below_made _ _) hb).grown hg2 (by omega) (own_block ho1)
end Go.Proofs.Ytfiplongnnkhmaa
