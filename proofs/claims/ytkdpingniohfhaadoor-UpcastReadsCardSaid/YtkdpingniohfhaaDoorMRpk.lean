/-
  The fields of a right event are right; the walk of schema.Pack. No condition.
-/
import Derived.Test.YtkdpingniohfhaaDoorMRfp
import Derived.Test.YtkdpingniohfhaaDoorMSs
namespace Go.Proofs.YtkdpingniohfhaaDoor
open Go.RowKit
set_option linter.unusedVariables false

/-- A field that an event has is a right one. -/
theorem fieldAt_ok (v : Int) (e : Ev) (h : Bd e) (hq : 3 ≤ v → 0 ≤ e.qty) (t : Nat) : fieldAt v e t = [] ∨ ∃ d, fieldAt v e t = [d] ∧ d.tag = t ∧ (d.text = true → 0 < d.bytes.length ∧ d.bytes.length ≤ 200) ∧ (d.text = false → 0 < d.num ∧ d.num < 18446744073709551616) := by
  have num : ∀ x : Int, 0 ≤ x → x < 18446744073709551616 → numF t x.toNat = [] ∨ ∃ d, numF t x.toNat = [d] ∧ d.tag = t ∧ (d.text = true → 0 < d.bytes.length ∧ d.bytes.length ≤ 200) ∧ (d.text = false → 0 < d.num ∧ d.num < 18446744073709551616) := by
    intro x h0 h1
    unfold numF
    split
    · exact .inl rfl
    · exact .inr ⟨_, rfl, rfl, fun h => (by cases h), fun _ => ⟨by show 0 < x.toNat; omega, by show x.toNat < _; omega⟩⟩
  have txt : ∀ u : ByteArray, u.size ≤ 200 → txtF t u.data.toList = [] ∨ ∃ d, txtF t u.data.toList = [d] ∧ d.tag = t ∧ (d.text = true → 0 < d.bytes.length ∧ d.bytes.length ≤ 200) ∧ (d.text = false → 0 < d.num ∧ d.num < 18446744073709551616) := by
    intro u hu
    unfold txtF
    split
    · exact .inl rfl
    · rename_i hne
      refine .inr ⟨_, rfl, rfl, fun _ => ⟨Nat.pos_of_ne_zero (fun h => hne (List.eq_nil_of_length_eq_zero h)), ?_⟩, fun h => (by cases h)⟩
      show u.data.toList.length ≤ 200
      rw [Array.length_toList]; exact hu
  unfold fieldAt
  split
  · next e8 => subst e8; exact txt _ h.u
  split
  · next e10 => subst e10; exact txt _ h.n
  split
  · next e4 =>
    obtain ⟨e4, _⟩ := e4
    subst e4
    obtain ⟨z0, z1⟩ := zig_bd e.qty h.q0 (by have := h.q1; omega)
    exact num _ (by omega) (by omega)
  · next e4 =>
    obtain ⟨n0, n1⟩ := num_in h hq t e4
    exact num _ n0 (by omega)
theorem upto_ok (v : Int) (e : Ev) (h : Bd e) (hq : 3 ≤ v → 0 ≤ e.qty) : ∀ k, k ≤ 31 → okF 0 (fieldsUpto v e k) ∧ tagAt (fieldsUpto v e k) (fieldsUpto v e k).length ≤ k
  | 0, _ => ⟨trivial, Nat.le_refl _⟩
  | k + 1, hk => by
    obtain ⟨h1, h2⟩ := upto_ok v e h hq k (by omega)
    show okF 0 (fieldsUpto v e k ++ fieldAt v e (k + 1)) ∧ tagAt (fieldsUpto v e k ++ fieldAt v e (k + 1)) (fieldsUpto v e k ++ fieldAt v e (k + 1)).length ≤ k + 1
    rcases fieldAt_ok v e h hq (k + 1) with h3 | ⟨d, h3, h4, h5, h6⟩
    · rw [h3, List.append_nil]; exact ⟨h1, by omega⟩
    · rw [h3]
      refine ⟨okF_snoc _ 0 d h1 ?_ (by omega) h5 h6, by rw [tagAt_snoc]; omega⟩
      split <;> omega
theorem fields_ok {v : Int} {e : Ev} (h : Right v e) : okF 0 (fieldsE v e) := by
  have hl : (hasV v).toNat ≤ 31 := by unfold hasV; split <;> (try split) <;> (try split) <;> (try split) <;> decide
  have := (upto_ok v e (bd_of h) h.q3 (hasV v).toNat hl).1
  rwa [fields_upto v e h.v1 h.v5] at this

/-- A pack: the version, the record; nothing where the event is wrong. -/
def packL (v : Int) (e : Ev) : List UInt8 := if chk v e = 0 then enc v.toNat ++ recF (fieldsE v e) else []
def GivesP (v : Int) (e : Ev) (w : World) (x : Ending) (w' : World) : Prop := ∃ a c l, x = .returned (.tuple #[.slice a l c, .int .i64 (chk v e)]) ∧ l = (packL v e).length ∧ w'.ownsRow w.heap.size 5 1 (.slice a l c) l ((packL v e).map B) ∧ Below w.heap.size w w'

set_option maxHeartbeats 1600000 in
theorem pack_any (v : Int) (e : Ev) (w : World) : Calls Tryd.prog 10 #[.int .i64 v, e.val] w (GivesP v e w) := by
  have hk := fun wx => senc_any v e wx
  unfold GivesE at hk
  by_cases h : chk v e = 0
  · have hR := right_of h
    have HL : Hid ((recF (fieldsE v e)).length ≤ 1024) := Lib.hid (rec_short v e (bd_of hR))
    have HG : Hid (packL v e = enc v.toNat ++ recF (fieldsE v e) ∧ chk v e = 0) := Lib.hid ⟨by unfold packL; rw [if_pos h], h⟩
    have he : encL v e = recF (fieldsE v e) := by unfold encL; rw [if_pos h]
    have hv1 := hR.v1
    have hv5 := hR.v5
    have hel := enc_len10 v.toNat (by omega)
    rw [h, he] at hk
    unfold Ev.val Ev.cells at hk ⊢
    have HK := Lib.hid hk
    clear hk hR h he
    unfold GivesP
    rw [HG.out.1, HG.out.2]
    go_enter Tryd.func10, Tryd.ntmps10
    go_wp2_with fail
    (with_reducible refine (HK.out _).mono ?_)
    rintro x w1 ⟨a, c, l, rfl, hl, ho, hb1⟩
    have hb2 := below_next (below_made _ _) hb1
    have hll : l ≤ 1024 := by rw [hl]; exact HL.out
    have HLL := Lib.hid hl
    clear hb1 hl
    go_wp2_with fail
    (with_reducible refine (enc_any v _ (by omega) (by omega)).mono ?_)
    rintro x w2 ⟨a2, c2, rfl, ho2, hb3⟩
    have ho1 := own_rowAt (own_below ho hb3)
    have hb4 := below_next hb2 hb3
    have hs2 := hb2.size
    have hs3 := hb3.size
    clear ho
    go_wp2_with (at_builtin; refine wpList_app rfl _ _ 22 rfl slB rfl ho2 rfl ho1 (B_one _) (by omega) (by omega) fun a3 cap3 w3 hown3 hg3 => ?_)
    refine bodyPost_ret (results_tmp2 rfl _ _ _) rfl ?_
    exact ⟨a3, cap3, _, rfl, by rw [List.length_append, HLL.out], own_mono (by rw [List.map_append]; exact hown3) hs2, hb4.grown hg3 hb4.size (fun j hj => by have := own_block ho2 j hj; omega)⟩
  · have hL : packL v e = [] := by unfold packL; rw [if_neg h]
    have hL2 : encL v e = [] := by unfold encL; rw [if_neg h]
    generalize hr : chk v e = r at hk h
    have HG : Hid (packL v e = [] ∧ chk v e = r) := Lib.hid ⟨hL, hr⟩
    have hrb : (r != 0) = true := by simpa using h
    rw [hL2] at hk
    unfold Ev.val Ev.cells at hk ⊢
    have HK := Lib.hid hk
    clear hk hL hL2 hr h
    unfold GivesP
    rw [HG.out.1, HG.out.2]
    go_enter Tryd.func10, Tryd.ntmps10
    go_wp2_with fail
    (with_reducible refine (HK.out _).mono ?_)
    rintro x w1 ⟨a, c, l, rfl, hl, ho, hb1⟩
    go_wp2_with fail
    refine bodyPost_ret (results_tmp2 rfl _ _ _) rfl ?_
    exact ⟨none, 0, 0, rfl, rfl, World.ownsRow_nil _ _ _ _, below_next (below_made _ _) hb1⟩
end Go.Proofs.YtkdpingniohfhaaDoor
