/-
  The walk of CrcFours. Conditions: arguments read as their types say, within the form's own reach; the table of nibbles holds what the text lays.
-/
import Derived.Test.YtdcifghlgeiobaaDoorClaw1
namespace Go.Proofs.YtdcifghlgeiobaaDoor
open Go.RowKit
set_option linter.unusedVariables false

theorem closedB_iff (l : List UInt8) (h : 4 ≤ l.length) : closedB l = true ↔ upd 4294967295 l = bitN 32 4294967295 := by
  unfold closedB
  have h2 := closed_iff (l.take (l.length - 4)) (l.drop (l.length - 4)) (by simp; omega)
  rw [List.take_append_drop] at h2
  simp only [h, decide_true, Bool.true_and, beq_iff_eq]
  exact h2

theorem closedB_whole (l : List UInt8) : closedB (l ++ four (sumN 0 l)) = true := by
  rw [closedB_iff _ (by simp [four])]
  exact (closed_iff l (four (sumN 0 l)) rfl).1 rfl

theorem whole_sum (l : List UInt8) : sumN 0 (l ++ four (sumN 0 l)) = 558161692 := by
  have h := (closed_iff l (four (sumN 0 l)) rfl).1 rfl
  unfold sumN at h ⊢
  simp only [Nat.sub_zero] at h ⊢
  rw [h]
  decide +kernel

theorem closed000 : closedB [0, 0, 0] = false := by decide +kernel
theorem closed0000 : closedB [0, 0, 0, 0] = true := by decide +kernel

theorem row000 (w : World) : RowAt (w.alloc (.cells #[.int .u8 0, .int .u8 0, .int .u8 0] 5)) (some ⟨w.heap.size, 0, none⟩) 3 3 1 (List.map B [0, 0, 0]) :=
  rowAt_lit w [.int .u8 0, .int .u8 0, .int .u8 0] 3 1 5 rfl (by decide)
theorem row0000 (w : World) : RowAt (w.alloc (.cells #[.int .u8 0, .int .u8 0, .int .u8 0, .int .u8 0] 5)) (some ⟨w.heap.size, 0, none⟩) 4 4 1 (List.map B [0, 0, 0, 0]) :=
  rowAt_lit w [.int .u8 0, .int .u8 0, .int .u8 0, .int .u8 0] 4 1 5 rfl (by decide)

set_option maxHeartbeats 1600000 in
theorem fours_walk (a : Option Addr) (n c : Nat) (l : List UInt8) (s : Int) (w : World) (r : RowAt w a n c 1 (l.map B)) (hs : n * 1 ≤ 140737488351232) (h0 : 0 ≤ s) (h1 : s < 4294967296) (ht : Tab w) :
    Calls Tryd.prog 6 #[.slice a n c, .int .u32 s] w fun e w' => e = .returned (.bool true) ∧ Below w.heap.size w w' := by
  obtain ⟨s, rfl⟩ := Int.eq_ofNat_of_zero_le h0
  have hsn : s < 4294967296 := by omega
  have e1 : l.length = n := by simpa using r.len
  have HW := Lib.hid (closedB_whole l)
  have HS := Lib.hid (whole_sum l)
  have hsl := sumN_lt 0 l
  obtain ⟨t, hts⟩ : ∃ t, sumN 0 l = t := ⟨_, rfl⟩
  rw [hts] at hsl HW HS
  have HT := Lib.hid hts; clear hts
  have HL : Hid ((l ++ four t).length = n + 4) := Lib.hid (by simp [e1, four])
  have HL4 : Hid ((four t).length = 4) := Lib.hid rfl
  have H1 := Lib.hid e1; clear e1 h0 h1
  go_enter Tryd.func6, Tryd.ntmps6
  go_wp2_with fail
  (with_reducible refine (head_any _ ht).mono ?_)
  rintro e w1 ⟨rfl, hb1⟩
  have ht1 := ht.below hb1
  go_wp2_with fail
  (with_reducible refine (closedB_any _ _ _ [0, 0, 0] _ (row000 _) (ht1.below (below_made _ _))).mono ?_)
  rintro e w2 ⟨rfl, hb2⟩
  rw [closed000]
  have hb3 := below_next hb1 (below_next (below_made _ _) hb2)
  have ht2 := ht.below hb3
  clear hb1 hb2 ht1
  go_wp2_with fail
  (with_reducible refine (closedB_any _ _ _ [0, 0, 0, 0] _ (row0000 _) (ht2.below (below_made _ _))).mono ?_)
  rintro e w3 ⟨rfl, hb2⟩
  rw [closed0000]
  have hb := below_next hb3 (below_next (below_made _ _) hb2)
  have ht3 := ht.below hb
  clear hb3 hb2 ht2
  go_wp2_with fail
  (with_reducible refine (four_any s _ hsn).mono ?_)
  rintro e w4 ⟨a4, c4, rfl, hown4, hb2⟩
  have r4 := own_rowAt hown4
  have hb4 := below_next hb hb2
  clear hown4 hb2 hb ht3
  go_wp2_with fail
  (with_reducible refine (rfour_any s _ hsn).mono ?_)
  rintro e w5 ⟨a5, c5, rfl, hown5, hb2⟩
  have r5 := own_rowAt hown5
  have r6 := r4.below hb2
  have hb := below_next hb4 hb2
  clear hown5 hb2 hb4 r4
  go_wp2_with fail
  (with_reducible refine (same_any _ _ _ (four s) _ _ _ (four s) _ r6 r5).mono ?_)
  rintro e w6 ⟨rfl, hst⟩
  rw [beq_self_eq_true]
  have hb4 := below_still hb hst
  have ht4 := ht.below hb4
  have r7 := r.below hb4
  clear r5 r6 hb hst
  go_wp2_with fail
  (with_reducible refine (sum_any _ _ _ l _ r7 ht4).mono ?_)
  rintro e w7 ⟨rfl, rfl⟩
  rw [HT.out]
  go_wp2_with fail
  (with_reducible refine (four_any t _ hsl).mono ?_)
  rintro e w7 ⟨a7, c7, rfl, hown7, hb2⟩
  have r8 := own_rowAt hown7
  have hb := below_next hb4 hb2
  rw [HL4.out] at r8 ⊢
  clear hown7 hb2 hb4 ht4 r7
  go_wp2_with fail
  (with_reducible refine (join_any _ _ _ l _ _ _ (four t) _ (by omega) (r.below hb) r8).mono ?_)
  rintro e w8 ⟨a9, c9, rfl, hown9, hb2⟩
  have r9 := own_rowAt hown9
  have hb4 := below_next hb hb2
  have ht4 := ht.below hb4
  rw [HL.out] at r9 ⊢
  clear hown9 hb2 hb r8
  go_wp2_with fail
  (with_reducible refine (closedB_any _ _ _ (l ++ four t) _ r9 ht4).mono ?_)
  rintro e w9 ⟨rfl, hb2⟩
  rw [HW.out]
  have r10 := r9.below hb2
  have hb := below_next hb4 hb2
  have ht5 := ht.below hb
  clear hb2 hb4 ht4 r9
  go_wp2_with fail
  (with_reducible refine (sum_any _ _ _ (l ++ four t) _ r10 ht5).mono ?_)
  rintro e w10 ⟨rfl, rfl⟩
  rw [HS.out]
  clear r10
  by_cases h4 : n < 4
  · go_wp2_with fail
    (with_reducible refine (closedB_any _ _ _ l _ (r.below hb) ht5).mono ?_)
    rintro e w11 ⟨rfl, hb2⟩
    have hcb : closedB l = false := by unfold closedB; rw [H1.out]; simp; omega
    rw [hcb]
    go_wp2_with fail
    go_ret
    exact ⟨rfl, below_next hb hb2⟩
  · obtain ⟨m, rfl⟩ : ∃ m, n = m + 4 := ⟨n - 4, by omega⟩
    have r7 := r.below hb
    have hcut := fun wx => run_cut0 (a := a) (n := m + 4) (cap := c) slB wx m (by have := r.2.1; omega)
    obtain ⟨a2, hcut2, r2⟩ := cut_from slB r7 m (by omega)
    rw [Nat.mul_one, ← List.map_drop, Nat.add_sub_cancel_left] at r2
    rw [Nat.add_sub_cancel_left] at hcut2
    have q7 := rowB_upto r7 (show m ≤ m + 4 by omega)
    have hsm := sumN_lt 0 (l.take m)
    have HF : Hid (closedB l = (four (sumN 0 (l.take m)) == l.drop m)) := Lib.hid (by unfold closedB; rw [H1.out, Nat.add_sub_cancel]; simp)
    have hmc : m + 4 ≤ c := r.2.1
    clear h4
    go_wp2_with fail
    go_region_with (first
      | (go_at_call 18; refine (closedB_any _ _ _ l _ (by first | exact rowAt_drew r7 | exact (rowAt_drew r7).below (by assumption)) (by first | exact ht5.still (Still.one _ 1) | exact (ht5.still (Still.one _ 1)).below (by assumption))).mono ?_; rintro e x1 ⟨rfl, hbc⟩)
      | (go_at_call 14; refine (rsum_any _ _ _ (l.take m) _ (by first | exact rowAt_drew q7 | exact (rowAt_drew q7).below (by assumption))).mono ?_; rintro e x2 ⟨rfl, rfl⟩)
      | (go_at_call 20; refine (rfour_any _ _ hsm).mono ?_; rintro e x3 ⟨af, cf, rfl, hownf, hbf⟩)
      | (go_at_call 17; refine (same_any _ _ _ (four (sumN 0 (l.take m))) _ _ _ (l.drop m) _ (by first | exact own_rowAt hownf | exact (own_rowAt hownf).below (by assumption)) (by first | exact (rowAt_drew r2).below (by assumption) | exact ((rowAt_drew r2).below (by assumption)).below (by assumption))).mono ?_; rintro e x4 ⟨rfl, hstf⟩))
    all_goals
      go_wp2_with fail
      go_ret
      refine ⟨ret_bool (by rw [HF.out]; simp), ?_⟩
      first
        | exact below_still (below_next (below_next hb (below_undrew hbc)) hbf) hstf
        | exact below_still (below_next (below_next hb (below_undrew hbf)) hbc) hstf
        | exact below_next (below_still (below_next hb (below_undrew hbf)) hstf) hbc
end Go.Proofs.YtdcifghlgeiobaaDoor
