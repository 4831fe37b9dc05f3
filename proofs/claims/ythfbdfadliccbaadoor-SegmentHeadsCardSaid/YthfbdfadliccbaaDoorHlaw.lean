/-
  The walk of SegmentHeads. Conditions: the bytes read as their type says; the table of nibbles holds what the text lays.
-/
import Derived.Test.YthfbdfadliccbaaDoorHrof
namespace Go.Proofs.YthfbdfadliccbaaDoor
open Go.RowKit
set_option linter.unusedVariables false

theorem hh_two : twoN 1 1 = [1, 1] := by unfold twoN; rw [enc_lt (by decide)]; rfl
theorem hh_hdr : hdrP 1 1 = (frameF 2 1 [1, 1], 0) := by
  have h : rightB 1 1 = true := by decide
  rw [hdrP_yes h]
  show (frameF 2 1 (twoN 1 1), 0) = _
  rw [hh_two]
theorem hh_len : (frameF 2 1 [1, 1]).length = 22 := frameF_len _ _ _
theorem hh_of : hofG (frameF 2 1 [1, 1]) = (1, 1, 22, 0) := by
  have := decF_laid (kind := 2) (seq := 1) (body := [1, 1]) (by decide) (by decide) (by decide) (by decide) []
  rw [List.append_nil] at this
  unfold hofG
  rw [this]
  decide

set_option maxHeartbeats 800000 in
theorem hhead_any (w : World) (ht : Tab w) : Calls Tryd.prog 4 #[] w fun e w' => e = .returned (.bool true) ∧ Below w.heap.size w w' := by
  have HE := Lib.hid hh_hdr
  have HD := Lib.hid hh_of
  have HN := Lib.hid hh_len
  obtain ⟨D, hD⟩ : ∃ D, frameF 2 1 [1, 1] = D := ⟨_, rfl⟩
  rw [hD] at HE HD HN
  clear hD
  go_enter Tryd.func4, Tryd.ntmps4
  go_wp2_with fail
  (with_reducible refine (header_any 1 1 _ ht).mono ?_)
  rintro e w1 ⟨a1, c1, rfl, ho1, hb1⟩
  rw [HE.out] at ho1 ⊢
  simp only at ho1 ⊢
  rw [HN.out] at ho1 ⊢
  have t1 := ht.below hb1
  have r1 := own_rowAt ho1
  clear ho1
  go_wp2_with fail
  (with_reducible refine (hof_any _ _ _ D _ r1 t1).mono ?_)
  rintro e w2 ⟨rfl, hb2⟩
  have HV : Hid (hdV (hofG D) = .tuple #[.int .i64 1, .int .i64 1, .int .i64 22, .int .i64 0]) := Lib.hid (by rw [HD.out]; rfl)
  rw [HV.out]
  go_wp2_with fail
  go_ret
  exact ⟨rfl, below_next hb1 hb2⟩

set_option maxHeartbeats 1600000 in
theorem heads_walk (num first : Int) (a : Option Addr) (n c : Nat) (l : List UInt8) (w : World) (g1 : -9223372036854775808 ≤ num) (g2 : num ≤ 9223372036854775807) (g3 : -9223372036854775808 ≤ first) (g4 : first ≤ 9223372036854775807) (r : RowAt w a n c 1 (l.map B)) (hs : n * 1 ≤ 140737488351232) (ht : Tab w) :
    Calls Tryd.prog 3 #[.int .i64 num, .int .i64 first, .slice a n c] w fun e w' => e = .returned (.bool true) ∧ Below w.heap.size w w' := by
  have hml : l.length = n := by simpa using r.len
  have HL := Lib.hid hml
  clear hml
  obtain ⟨h, hh⟩ : ∃ h, hdrP num first = h := ⟨_, rfl⟩
  obtain ⟨hl, er⟩ := h
  have HP := Lib.hid hh
  clear hh
  obtain ⟨z, hz⟩ : ∃ z, hofG l = z := ⟨_, rfl⟩
  obtain ⟨x, y, s, g⟩ := z
  have HG : Hid (hdV (hofG l) = .tuple #[.int .i64 (x : Int), .int .i64 (y : Int), .int .i64 (s : Int), .int .i64 (g : Int)]) := Lib.hid (by rw [hz]; rfl)
  have HR : Hid (hdV (hofR l) = .tuple #[.int .i64 (x : Int), .int .i64 (y : Int), .int .i64 (s : Int), .int .i64 (g : Int)]) := Lib.hid (by rw [← hof_same, hz]; rfl)
  have HS : Hid ((hl == hl) = true) := Lib.hid (by simp)
  clear hz
  go_enter Tryd.func3, Tryd.ntmps3
  go_wp2_with fail
  (with_reducible refine (hhead_any _ ht).mono ?_)
  rintro e w1 ⟨rfl, hb1⟩
  have r1 := r.below hb1
  have t1 := ht.below hb1
  go_wp2_with fail
  (with_reducible refine (rheader_any _ _ _).mono ?_)
  rintro e w2 ⟨a2, c2, rfl, ho2, hb2⟩
  rw [HP.out] at ho2 ⊢
  simp only at ho2 ⊢
  have r2 := r1.below hb2
  have t2 := t1.below hb2
  have hb3 := below_next hb1 hb2
  clear r1 t1 hb1 hb2
  go_wp2_with fail
  (with_reducible refine (header_any _ _ _ t2).mono ?_)
  rintro e w3 ⟨a3, c3, rfl, ho3, hb4⟩
  rw [HP.out] at ho3 ⊢
  simp only at ho3 ⊢
  have q2 := own_rowAt (own_below ho2 hb4)
  have q3 := own_rowAt ho3
  have r3 := r2.below hb4
  have t3 := t2.below hb4
  have hb5 := below_next hb3 hb4
  clear ho2 ho3 r2 t2 hb3 hb4
  go_wp2_with fail
  (with_reducible refine (same_any _ _ _ hl _ _ _ hl _ q3 q2).mono ?_)
  rintro e w4 ⟨rfl, hst⟩
  rw [HS.out]
  have r4 := r3.still hst
  have t4 := t3.still hst
  have hb6 := below_still hb5 hst
  clear r3 t3 hb5 q2 q3 hst
  go_wp2_with fail
  (with_reducible refine (rhof_any _ _ _ l _ r4).mono ?_)
  rintro e w5 ⟨rfl, hb7⟩
  rw [HR.out]
  have r5 := r4.below hb7
  have t5 := t4.below hb7
  have hb8 := below_next hb6 hb7
  clear r4 t4 hb6 hb7
  go_wp2_with fail
  (with_reducible refine (copy_any _ _ _ l _ (by omega) r5).mono ?_)
  rintro e w6 ⟨a6, c6, rfl, ho6, hb9⟩
  have q6 := own_rowAt ho6
  have t6 := t5.below hb9
  have hb10 := below_next hb8 hb9
  clear ho6 r5 t5 hb8 hb9
  go_wp2_with fail
  (with_reducible refine (hof_any _ _ _ l _ q6 t6).mono ?_)
  rintro e w7 ⟨rfl, hb11⟩
  rw [HG.out]
  have hb12 := below_next hb10 hb11
  clear q6 t6 hb10 hb11
  go_wp2_with fail
  go_ret
  exact ⟨rfl, hb12⟩
end Go.Proofs.YthfbdfadliccbaaDoor
