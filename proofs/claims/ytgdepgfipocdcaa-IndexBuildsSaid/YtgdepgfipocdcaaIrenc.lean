/-
  The walk of the reference's Encode of an index. Condition: the slice reads as a list of marks.
-/
import Derived.Test.YtgdepgfipocdcaaIenc
namespace Go.Proofs.Ytgdepgfipocdcaa
open Go.RowKit
set_option linter.unusedVariables false

theorem encs_step {p m : Mk} {ms : List Mk} {k : Nat} {l D : List UInt8} {x y : Int} (hm : ms[k]? = some m) (h : l ++ encs (diffs p (ms.drop k)) = D) (hx : m.s - p.s = x) (hy : m.a - p.a = y) (x0 : 0 ≤ x) (x1 : x ≤ 1099511627776) (y0 : 0 ≤ y) (y1 : y ≤ 1099511627776) :
    (l ++ enc x.toNat) ++ enc y.toNat ++ encs (diffs m (ms.drop (k + 1))) = D := by
  rw [mdrop hm] at h
  rw [← h, ← hx, ← hy]
  simp only [diffs, encs, List.flatMap_cons, UInt64.toNat_ofNat', List.append_assoc]
  rw [Nat.mod_eq_of_lt (by omega), Nat.mod_eq_of_lt (by omega)]

set_option maxHeartbeats 1600000 in
theorem irenc_any (a : Option Addr) (n c : Nat) (ms : List Mk) (w : World) (r : RowAt w a n c 2 (ms.flatMap Mk.cells)) :
    Calls Try.prog 22 #[.slice a n c] w (GivesE 5 w (encIx ms)) := by
  have hml : ms.length = n := by have := r.1; rw [M_len] at this; omega
  by_cases hok : okN ms = true
  · have hall := Gd.start hok
    have HR : Hid (encIx ms = (encAll (diffs ⟨0, 0⟩ ms), 0)) := Lib.hid (by unfold encIx; rw [if_pos hok])
    have hn : n ≤ 512 := by rw [← hml]; exact ((okN_iff ms).1 hok).1
    have HG := Lib.hid hall
    have hdl := diffs_len ms ⟨0, 0⟩
    have hlen := encAll_len (diffs ⟨0, 0⟩ ms) (by omega)
    rw [hdl, hml] at hlen
    obtain ⟨D, hD⟩ : ∃ D, encAll (diffs ⟨0, 0⟩ ms) = D := ⟨_, rfl⟩
    have hst : enc (2 * n) ++ encs (diffs ⟨0, 0⟩ (ms.drop 0)) = D := by rw [← hD, List.drop_zero]; unfold encAll; rw [hdl, hml]
    rw [hD] at HR hlen
    have HST := Lib.hid hst
    have H1 := Lib.hid hml
    have HO := Lib.hid hok
    have hl0 := enc_len10 (2 * n) (by omega)
    clear hall hml hok hdl hst hD
    go_enter Try.func22, Try.ntmps22
    go_wp2_with fail
    (with_reducible refine (rvalid_any _ _ _ ms _ r).mono ?_)
    rintro e w0 ⟨rfl, hst0⟩
    have hb0 := hst0.below w.heap.size
    rw [HO.out]
    go_wp2_with fail
    refine (renc_n _ _ _ (Nat.le_refl _) (by omega) (by omega)).mono ?_
    rintro e w1 ⟨a1, c1, rfl, ho1, hb1⟩
    have hst1 : enc (2 * (n : Int)).toNat ++ encs (diffs ⟨0, 0⟩ (ms.drop 0)) = D := by rw [show (2 * (n : Int)).toNat = 2 * n by omega]; exact HST.out
    have HST1 := Lib.hid hst1
    have hbx := below_next hb0 hb1
    have hlx : enc (2 * (n : Int)).toNat = enc (2 * n) := by rw [show (2 * (n : Int)).toNat = 2 * n by omega]
    have ho2 := own_mono ho1 hb0.size
    obtain ⟨l0, hl0'⟩ : ∃ l0, enc (2 * (n : Int)).toNat = l0 := ⟨_, rfl⟩
    rw [hl0'] at ho1 ho2 HST1 ⊢
    clear hst1 hlx hl0' ho1
    go_wp2_with fail
    go_loopw [4, 18] (fun bv iv wr => ∃ (k : Nat) (p : Mk) (l : List UInt8) (a : Option Addr) (cap : Nat), bv = .slice a l.length cap ∧ iv = .int .i64 (k : Int) ∧ k ≤ n ∧
      wr.ownsRow w.heap.size 5 1 (.slice a l.length cap) l.length (l.map B) ∧ Hid (l ++ encs (diffs p (ms.drop k)) = D) ∧ Hid (Gd p (ms.drop k)) ∧ Hid ((k = 0 → p = ⟨0, 0⟩) ∧ (0 < k → ms[k - 1]? = some p)) ∧ Below w.heap.size w wr) (fun _ iv _ => n - (intOf iv).toNat)
    case atStart => exact ⟨0, ⟨0, 0⟩, _, a1, c1, rfl, rfl, Nat.zero_le _, ho2, HST1, HG, Lib.hid ⟨fun _ => rfl, fun h => by omega⟩, hbx⟩
    case round =>
      clear ho2 hbx hb1 hb0
      obtain ⟨k, p, l, a2, cap, rfl, rfl, hk, ho, HS, HP, HK, hb⟩ := hrel
      by_cases hlt : k < n
      · obtain ⟨b, off, m, rfl, hm, x0, x1⟩ := mk_at (r.below hb) k hlt
        have hg := HP.out
        rw [mdrop hm] at hg
        obtain ⟨q1, q2, q3, q4⟩ := hg.head
        have q5 := hg.1
        have q6 := hg.2.1
        have HT := Lib.hid hg.tail
        have HM := Lib.hid hm
        obtain ⟨x, hx⟩ : ∃ x, m.s - p.s = x := ⟨_, rfl⟩
        obtain ⟨y, hy⟩ : ∃ y, m.a - p.a = y := ⟨_, rfl⟩
        have b1 : 0 ≤ x ∧ x ≤ 1099511627776 := by omega
        have b2 : 0 ≤ y ∧ y ≤ 1099511627776 := by omega
        obtain ⟨b10, b11⟩ := b1
        obtain ⟨b20, b21⟩ := b2
        have HS2 := Lib.hid (encs_step hm HS.out hx hy b10 b11 b20 b21)
        have hlen2 : l.length + (enc x.toNat).length + (enc y.toNat).length ≤ 20000 := by
          have := HS2.out
          rw [← this] at hlen
          simp only [List.length_append] at hlen
          omega
        have hsz := hb.size
        clear hm hg
        by_cases hk0 : k = 0
        · have hd1 : ¬ (0 : Int) < (k : Int) := by omega
          have hp := HK.out.1 hk0
          subst hp
          simp only [Int.sub_zero] at hx hy
          subst hx hy
          clear hk0
          go_wp2_with fail
          refine (renc_n _ _ _ (Nat.le_refl _) (by omega) (by omega)).mono ?_
          rintro e w2 ⟨a3, c3, rfl, ho3, hb3⟩
          have hx1 := own_below ho hb3
          have hsz2 := hb3.size
          go_wp2_with (at_builtin; refine wpList_app rfl _ _ 39 rfl slB rfl hx1 rfl (own_rowAt ho3) (B_one _) (by omega) (by omega) fun a4 c4 w4 ho4 hg4 => ?_)
          have hb4 := (below_next hb hb3).grown hg4 (by omega) (own_block hx1)
          have hsz4 := hb4.size
          rw [← List.map_append] at ho4
          refine (renc_n _ _ _ (Nat.le_refl _) (by omega) (by omega)).mono ?_
          rintro e w5 ⟨a5, c5, rfl, ho5, hb5⟩
          have hx2 := own_below ho4 hb5
          have hsz5 := hb5.size
          go_wp2_with (at_builtin; refine wpList_app rfl _ _ 39 rfl slB rfl hx2 rfl (own_rowAt ho5) (B_one _) (by omega) (by omega) fun a6 c6 w6 ho6 hg6 => ?_)
          have hb6 := (below_next hb4 hb5).grown hg6 (by omega) (own_block hx2)
          rw [← List.map_append, ← List.length_append, ← List.length_append] at ho6
          go_roundw
          case rel => exact ⟨k + 1, m, _, a6, c6, by simp [Nat.add_assoc], by go_num, by omega, ho6, HS2, HT, Lib.hid ⟨fun h => by omega, fun _ => HM.out⟩, hb6⟩
          case measure => simp [intOf]; omega
        · obtain ⟨j, hj⟩ : ∃ j, k = j + 1 := ⟨k - 1, by omega⟩
          obtain ⟨b', off', p', hba, hpj, hp0, hp1⟩ := mk_at (r.below hb) j (by omega)
          cases hba
          have q1 := HK.out.2 (by omega)
          rw [hj, Nat.add_sub_cancel, hpj] at q1
          cases q1
          have hd1 : (0 : Int) < (k : Int) := by omega
          have hj1 : (k : Int) - 1 = (j : Int) := by omega
          have hjn : j < n := by omega
          clear hpj hk0
          have HJ := Lib.hid hj
          clear hj
          go_wp2_with fail
          refine (renc_n _ _ _ (Nat.le_refl _) (by omega) (by omega)).mono ?_
          rintro e w2 ⟨a3, c3, rfl, ho3, hb3⟩
          have hx1 := own_below ho hb3
          have hsz2 := hb3.size
          go_wp2_with (at_builtin; refine wpList_app rfl _ _ 39 rfl slB rfl hx1 rfl (own_rowAt ho3) (B_one _) (by omega) (by omega) fun a4 c4 w4 ho4 hg4 => ?_)
          have hb4 := (below_next hb hb3).grown hg4 (by omega) (own_block hx1)
          have hsz4 := hb4.size
          rw [← List.map_append] at ho4
          refine (renc_n _ _ _ (Nat.le_refl _) (by omega) (by omega)).mono ?_
          rintro e w5 ⟨a5, c5, rfl, ho5, hb5⟩
          have hx2 := own_below ho4 hb5
          have hsz5 := hb5.size
          go_wp2_with (at_builtin; refine wpList_app rfl _ _ 39 rfl slB rfl hx2 rfl (own_rowAt ho5) (B_one _) (by omega) (by omega) fun a6 c6 w6 ho6 hg6 => ?_)
          have hb6 := (below_next hb4 hb5).grown hg6 (by omega) (own_block hx2)
          rw [← List.map_append, ← List.length_append, ← List.length_append] at ho6
          go_roundw
          case rel => exact ⟨k + 1, m, _, a6, c6, by simp [Nat.add_assoc], by go_num, by omega, ho6, HS2, HT, Lib.hid ⟨fun h => by omega, fun _ => HM.out⟩, hb6⟩
          case measure => simp [intOf]; omega
      · obtain rfl : k = n := by omega
        have hlk : ¬ (k : Int) < (k : Int) := by omega
        go_wp2_with fail
        go_ret2
        have hl : l = D := by
          have := HS.out
          rw [List.drop_eq_nil_of_le (by have := H1.out; omega)] at this
          simpa [diffs, encs] using this
        rw [HR.out]
        rw [hl] at ho
        exact ⟨a2, cap, by rw [hl]; rfl, ho, hb⟩
  · have HR : Hid (encIx ms = ([], 70)) := Lib.hid (by unfold encIx; rw [if_neg hok])
    have hno : okN ms = false := by simpa using hok
    have HO := Lib.hid hno
    clear hno hok hml
    go_enter Try.func22, Try.ntmps22
    go_wp2_with fail
    (with_reducible refine (rvalid_any _ _ _ ms _ r).mono ?_)
    rintro e w1 ⟨rfl, hst⟩
    rw [HO.out]
    go_wp2_with fail
    go_ret2
    rw [HR.out]
    exact ⟨none, 0, rfl, World.ownsRow_nil _ _ _ _, hst.below _⟩
end Go.Proofs.Ytgdepgfipocdcaa
