/-
  The walk of Encode: what the call gives, for every number. No condition beyond that the argument fits its kind.
  The walk of the reference's Encode, by induction: it gives what Encode gives. No condition beyond that the argument fits its kind.
-/
import Derived.Test.YtffhejaeliphcaaDoorMBytes
import Derived.Test.YtffhejaeliphcaaDoorMVb
import Derived.WalkSpells
import Derived.Lib.Hide
import Derived.WalkLawsBesides
namespace Go.Proofs.YtffhejaeliphcaaDoor
open Go.RowKit
set_option linter.unusedVariables false

set_option maxHeartbeats 400000 in
theorem enc_any (u : Int) (w : World) (h0 : 0 ≤ u) (hu : u < 18446744073709551616) :
    Calls Tryd.prog 67 #[.int .u64 u] w (GivesB 5 w (enc u.toNat)) := by
  have hl := enc_len10 u.toNat (by omega)
  go_enter Tryd.func67, Tryd.ntmps67
  go_wp2_with (first | (at_make; refine wpList_mk0 rfl _ _ 22 rfl slB w.heap.size _ _ _ 10 rfl rfl rfl (by decide) (by decide) (Nat.le_refl _) ?_; intro w1 hown hg))
  go_loopw [0, 3] (fun uv bv wr => ∃ (x : Int) (l : List UInt8) (a : Option Addr) (cap : Nat), uv = .int .u64 x ∧ 0 ≤ x ∧ x < 18446744073709551616 ∧ bv = .slice a l.length cap ∧
    wr.ownsRow w.heap.size 5 1 (.slice a l.length cap) l.length (l.map B) ∧ l ++ enc x.toNat = enc u.toNat ∧ Below w.heap.size w wr) (fun uv _ _ => (intOf uv).toNat)
  case atStart => exact ⟨u, [], _, 10, rfl, h0, hu, rfl, hown, rfl, (Below.refl _ _).grown hg (Nat.le_refl _) (fun k hk => by cases hk)⟩
  case round =>
    obtain ⟨x, l, a, cap, rfl, hx0, hx, rfl, hown, hl2, hb⟩ := hrel
    have hll : l.length + (enc x.toNat).length ≤ 10 := by rw [← List.length_append, hl2]; exact hl
    have hp := enc_len_pos x.toNat
    have H := Lib.hid hl2; clear hl2
    have hsz := hb.size
    by_cases h : x < 128
    · go_wp2_with (at_builtin; refine wpList_app1 rfl _ _ 22 rfl slB rfl hown rfl rfl (one1 _ _) (by omega) (by omega) fun a2 cap2 w2 hown2 hg2 => ?_)
      go_ret
      have hl2 := H.out
      rw [enc_lt (show x.toNat < 128 by omega)] at hl2
      have ho := own_snoc hown2 rfl (show x = ((UInt8.ofNat x.toNat).toNat : Int) by have := byte_of x.toNat; omega)
      rw [hl2] at ho
      exact ⟨a2, cap2, by rw [← hl2, List.length_append]; rfl, ho, hb.grown hg2 hsz (own_block hown)⟩
    · go_wp2_with (at_builtin; refine wpList_app1 rfl _ _ 22 rfl slB rfl hown rfl rfl (one1 _ _) (by omega) (by omega) fun a2 cap2 w2 hown2 hg2 => ?_)
      go_roundw
      case rel =>
        have ho := own_snoc hown2 rfl (show _ = ((UInt8.ofNat (128 + x.toNat % 128)).toNat : Int) by have := byte_or x.toNat; rw [show ((x.toNat : Nat) : Int) = x by omega] at this; exact this)
        exact ⟨x / 128, _, a2, cap2, rfl, by omega, by omega, by rw [List.length_append]; rfl, ho, by have := H.out; rw [enc_ge (show 128 ≤ x.toNat by omega)] at this; rw [← this, show (x / 128).toNat = x.toNat / 128 by omega]; simp, hb.grown hg2 hsz (own_block hown)⟩
      case measure => simp [intOf]; omega
end Go.Proofs.YtffhejaeliphcaaDoor

namespace Go.Proofs.YtffhejaeliphcaaDoor
open Go.RowKit
set_option linter.unusedVariables false

set_option maxHeartbeats 400000 in
theorem renc_n (n : Nat) : ∀ (u : Int) (w : World), u.toNat ≤ n → 0 ≤ u → u < 18446744073709551616 →
    Calls Tryd.prog 58 #[.int .u64 u] w (GivesB 5 w (enc u.toNat)) := by
  induction n with
  | zero =>
    intro u w hn h0 hu
    go_enter Tryd.func58, Tryd.ntmps58
    go_wp2_with fail
    go_ret
    rw [enc_lt (show u.toNat < 128 by omega)]
    exact ⟨_, _, rfl, own_lit1 w _ (by have := byte_of u.toNat; omega), below_made _ _⟩
  | succ n ih =>
    intro u w hn h0 hu
    have IH := Lib.hid ih; clear ih
    by_cases hlt : u < 128
    · go_enter Tryd.func58, Tryd.ntmps58
      go_wp2_with fail
      go_ret
      rw [enc_lt (show u.toNat < 128 by omega)]
      exact ⟨_, _, rfl, own_lit1 w _ (by have := byte_of u.toNat; omega), below_made _ _⟩
    · have hl := enc_len10 (u / 128).toNat (by omega)
      go_enter Tryd.func58, Tryd.ntmps58
      go_wp2_with fail
      refine (IH.out (u / 128) _ (by omega) (by omega) (by omega)).mono ?_
      rintro e w1 ⟨a, cap, rfl, hown, hb⟩
      have ho1 := own_below (own_lit w [.int .u8 (128 + u % 128)] 1 1 5 rfl (by decide)) hb
      have hsz := hb.size
      simp at hsz
      go_wp2_with (at_builtin; refine wpList_app rfl _ _ 22 rfl slB rfl ho1 rfl (own_rowAt hown) (B_one _) (by omega) (by omega) fun a2 cap2 w2 hown2 hg2 => ?_)
      go_ret
      rw [enc_ge (show 128 ≤ u.toNat by omega), show u.toNat / 128 = (u / 128).toNat by omega]
      refine ⟨a2, cap2, by simp [Nat.add_comm], ?_, ?_⟩
      · have e : (128 + u % 128 : Int) = ((UInt8.ofNat (128 + u.toNat % 128)).toNat : Int) := by simp only [UInt8.toNat_ofNat']; omega
        rw [e] at hown2
        simpa [B, Nat.add_comm] using hown2
      · exact (below_next (below_made _ _) hb).grown hg2 (by omega) (own_block ho1)
end Go.Proofs.YtffhejaeliphcaaDoor
