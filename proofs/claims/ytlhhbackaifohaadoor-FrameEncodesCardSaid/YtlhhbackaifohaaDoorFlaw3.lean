/-
  The walk of FrameEncodes. Conditions: arguments read as their types say, within the form's own reach; the table of nibbles holds what the text lays.
-/
import Derived.Test.YtlhhbackaifohaaDoorFhead
import Derived.Test.YtlhhbackaifohaaDoorFrenc
namespace Go.Proofs.YtlhhbackaifohaaDoor
open Go.RowKit
set_option linter.unusedVariables false

set_option maxRecDepth 20000 in
set_option maxHeartbeats 3200000 in
theorem fencodes_walk (kind seq : Int) (a : Option Addr) (n c : Nat) (l : List UInt8) (k : Int) (w : World) (k0 : -9223372036854775808 ≤ kind) (k1 : kind ≤ 9223372036854775807) (s0 : -9223372036854775808 ≤ seq) (s1 : seq ≤ 9223372036854775807) (r : RowAt w a n c 1 (l.map B)) (hs : n * 1 ≤ 140737488351232)
    (n0 : -9223372036854775808 ≤ k) (n1 : k ≤ 9223372036854775807) (ht : Tab w) :
    Calls Tryd.prog 3 #[.int .i64 kind, .int .i64 seq, .slice a n c, .int .i64 k] w fun e w' => e = .returned (.bool true) ∧ Below w.heap.size w w' := by
  have hml : l.length = n := by simpa using r.len
  have HL := Lib.hid hml
  clear hml
  go_enter Tryd.func3, Tryd.ntmps3
  go_wp2_with fail
  (with_reducible refine (fhead_any _ ht).mono ?_)
  rintro e w1 ⟨rfl, hb1⟩
  have r1 := r.below hb1
  have t1 := ht.below hb1
  go_wp2_with fail
  (with_reducible refine (fsize_in 0 _ (by decide) (by decide)).mono ?_)
  rintro e w2 ⟨rfl, rfl⟩
  go_wp2_with fail
  (with_reducible refine (copy_any _ _ _ l _ (by omega) r1).mono ?_)
  rintro e w2 ⟨a2, c2, rfl, ho2, hb2⟩
  rw [HL.out] at ho2 ⊢
  have q2 := own_rowAt ho2
  have r2 := r1.below hb2
  have t2 := t1.below hb2
  have hb3 := below_next hb1 hb2
  clear ho2 hb1 hb2 r1 t1
  go_wp2_with fail
  (with_reducible refine (frenc_any kind seq _ _ _ l _ r2).mono ?_)
  rintro e w3 ⟨a3, c3, rfl, ow3, hb4⟩
  have q3 := q2.below hb4
  have r3 := r2.below hb4
  have t3 := t2.below hb4
  have hb5 := below_next hb3 hb4
  clear hb3 hb4 q2 r2 t2
  go_wp2_with fail
  (with_reducible refine (fenc_any kind seq _ _ _ l _ q3 t3).mono ?_)
  rintro e w4 ⟨a4, c4, rfl, ob4, hb6⟩
  have ow4 := own_below ow3 hb6
  have nwb := ne_later ow3 ob4 (Nat.le_refl _)
  have q4 := q3.below hb6
  have r4 := r3.below hb6
  have t4 := t3.below hb6
  have hb7 := below_next hb5 hb6
  have hs5 := hb5.size
  clear hb5 hb6 q3 r3 t3 ow3
  go_wp2_with fail
  (with_reducible refine (fenc_any kind seq _ _ _ l _ q4 t4).mono ?_)
  rintro e w5 ⟨a5, c5, rfl, oc5, hb8⟩
  have ow5 := own_below ow4 hb8
  have ob5 := own_below ob4 hb8
  have nbc := ne_later ob4 oc5 (Nat.le_refl _)
  have q5 := q4.below hb8
  have r5 := r4.below hb8
  have hb9 := below_next hb7 hb8
  clear hb7 hb8 q4 r4 t4 ow4 ob4
  obtain ⟨z, hz⟩ : ∃ z, encF kind seq l = z := ⟨_, rfl⟩
  obtain ⟨D, er⟩ := z
  rw [hz] at ow5 ob5 oc5 nwb nbc ⊢
  simp only at ow5 ob5 oc5 nwb nbc ⊢
  clear hz
  go_wp2_with fail
  (with_reducible refine (same_any _ _ _ D _ _ _ D _ (own_rowAt ob5) (own_rowAt ow5)).mono ?_)
  rintro e w6 ⟨rfl, hst6⟩
  rw [beq_self_eq_true]
  have ow6 := own_still ow5 hst6
  have ob6 := own_still ob5 hst6
  have oc6 := own_still oc5 hst6
  have q6 := q5.still hst6
  have r6 := r5.still hst6
  have hb10 := below_still hb9 hst6
  clear hb9 hst6 ow5 ob5 oc5 q5 r5
  go_wp2_with fail
  (with_reducible refine (same_any _ _ _ l _ _ _ l _ q6 r6).mono ?_)
  rintro e w7 ⟨rfl, hst7⟩
  rw [beq_self_eq_true]
  have ow7 := own_still ow6 hst7
  have ob7 := own_still ob6 hst7
  have oc7 := own_still oc6 hst7
  have hb11 := below_still hb10 hst7
  clear hb10 hst7 ow6 ob6 oc6 q6 r6
  obtain ⟨m, hm⟩ : ∃ m, D.length = m := ⟨_, rfl⟩
  rw [hm] at ow7 ob7 oc7 nwb nbc ⊢
  have HM := Lib.hid hm
  have hcap := (own_rowAt ob7).2.2.1
  have hcap2 := (own_rowAt ob7).2.1
  unfold maxLen at hcap
  clear hm
  go_wp2_with fail
  go_loopw [66] (fun iv wr => ∃ (j : Nat) (vs : List Value), iv = .int .i64 (j : Int) ∧ j ≤ m ∧ wr.ownsRow w3.heap.size 5 1 (.slice a4 m c4) m vs ∧ Hid (∀ i, j ≤ i → vs[i]? = (D.map B)[i]?) ∧ w7.grownBy wr (Value.slice a4 m c4).ownBlock) (fun iv _ => m - (intOf iv).toNat)
  case atStart => exact ⟨0, _, rfl, Nat.zero_le _, ob7, Lib.hid (fun _ _ => rfl), grownBy_refl _ _⟩
  case round =>
    obtain ⟨j, vs, rfl, hj, oj, HV, hg⟩ := hrel
    by_cases hjl : j < m
    · obtain ⟨g, rfl⟩ := own_some oj (by omega)
      have hgx : ∃ x : UInt8, wr.cell? ⟨g, j, none⟩ = some (.int .u8 (x.toNat : Int)) := by
        have h1 := oj.cellAt j (by omega)
        rw [HV.out j (Nat.le_refl _), List.getElem?_map, List.getElem?_eq_getElem (by have := HM.out; omega)] at h1
        exact ⟨_, h1⟩
      obtain ⟨x, hcx⟩ := hgx
      have hf := oj.frozenAt j
      obtain ⟨hst, hgs⟩ := oj.stored j (.int .u8 (bits .xor .u8 (x.toNat : Int) 255))
      have HV2 : Hid (∀ i, j + 1 ≤ i → (vs.set j (.int .u8 (bits .xor .u8 (x.toNat : Int) 255)))[i]? = (D.map B)[i]?) := Lib.hid (fun i hi => by
        rw [List.getElem?_set_ne (by omega)]; exact HV.out i (by omega))
      have hg2 := grownBy_trans hg hgs
      go_wp2_with fail
      go_roundw
      case rel => exact ⟨j + 1, _, by go_num, by omega, hst, HV2, hg2⟩
      case measure => simp [intOf]; omega
    · obtain rfl : j = m := by omega
      have hjj : ¬ (j : Int) < (j : Int) := by omega
      have ow := own_ne ow7 hg (row := .slice a4 j c4) nwb.symm
      have oc := own_ne oc7 hg (row := .slice a4 j c4) nbc
      have hb12 := hb11.grown hg hb11.size (fun k hk => by have := (ob7.lt k hk).1; omega)
      clear hg oj
      by_cases c1 : 0 ≤ k ∧ k ≤ 16384
      · obtain ⟨v1, v2⟩ := c1
        go_wp2_with fail
        (with_reducible refine (same_any _ _ _ D _ _ _ D _ (own_rowAt oc) (own_rowAt ow)).mono ?_)
        rintro e w9 ⟨rfl, hst9⟩
        rw [beq_self_eq_true]
        have hb13 := below_still hb12 hst9
        have e20 : (20 : Int) + k = k + 20 := by omega
        go_wp2_with fail
        (with_reducible refine (fsize_in k _ v1 v2).mono ?_)
        rintro e w10 ⟨rfl, rfl⟩
        rw [e20]
        go_wp2_with fail
        go_ret
        exact ⟨ret_bool (by simp), hb13⟩
      · have c2 : k < 0 ∨ 16384 < k := by omega
        have hor : k < 0 ∨ (¬ k < 0 ∧ 16384 < k) := by omega
        have HC := Lib.hid c2
        clear c1 c2
        rcases hor with v1 | ⟨v1, v2⟩
        all_goals
          go_wp2_with fail
          (with_reducible refine (same_any _ _ _ D _ _ _ D _ (own_rowAt oc) (own_rowAt ow)).mono ?_)
          rintro e w9 ⟨rfl, hst9⟩
          rw [beq_self_eq_true]
          have hb13 := below_still hb12 hst9
          go_wp2_with fail
          (with_reducible refine (fsize_out k _ HC.out).mono ?_)
          rintro e w10 ⟨rfl, rfl⟩
          go_wp2_with fail
          go_ret
          exact ⟨rfl, hb13⟩
end Go.Proofs.YtlhhbackaifohaaDoor
