/-
  The walk of VarintOwn. Conditions: arguments read as their types say; the slice holds at most 1048576 elements.
-/
import Derived.Test.YthejahoiodoalaaVlaw5
namespace Go.Proofs.Ythejahoiodoalaa
open Go.RowKit
set_option linter.unusedVariables false

theorem set_U' (xs : List UInt64) (j : Nat) (x : UInt64) : (xs.map U).set j (.int .u64 (IntKind.u64.wrap ((x.toNat : Int) + 1))) = (xs.set j (UInt64.ofNat (x.toNat + 1))).map U := by
  have e : IntKind.u64.wrap ((x.toNat : Int) + 1) = ((UInt64.ofNat (x.toNat + 1)).toNat : Int) := by
    rw [show IntKind.u64.wrap ((x.toNat : Int) + 1) = ((x.toNat : Int) + 1) % 18446744073709551616 by simp [IntKind.wrap, IntKind.bits, IntKind.signed]]
    simp only [UInt64.toNat_ofNat']
    omega
  rw [List.map_set, e]; rfl

set_option maxHeartbeats 1600000 in
theorem own_walk (u : Int) (a : Option Addr) (n c : Nat) (us : List UInt64) (w : World) (h0 : 0 ≤ u) (hu : u < 18446744073709551616)
    (r : RowAt w a n c 1 (us.map U)) (hs : n ≤ 1048576) :
    Calls Try.prog 12 #[.int .u64 u, .slice a n c] w fun e w' => e = .returned (.bool true) ∧ Below w.heap.size w w' := by
  have e1 : us.length = n := by simpa using r.len
  have hl := encAll_len us (by omega)
  rw [e1] at hl
  have HD : Hid (decAll (encAll us) (n : Int) = (us, (encAll us).length, 0)) := Lib.hid (by rw [← e1]; have := decAll_encAll us [] (by omega); rwa [List.append_nil] at this)
  have H1 := Lib.hid e1; clear e1
  obtain ⟨m, hm⟩ : ∃ m, (encAll us).length = m := ⟨_, rfl⟩
  rw [hm] at hl HD
  have HM := Lib.hid hm; clear hm
  obtain ⟨q, hq⟩ : ∃ q, (enc u.toNat).length = q := ⟨_, rfl⟩
  have hq10 := enc_len10 u.toNat (by omega)
  rw [hq] at hq10
  have HQ := Lib.hid hq; clear hq
  go_enter Try.func12, Try.ntmps12
  go_wp2_with fail
  (with_reducible refine (head_any _).mono ?_)
  rintro e w1 ⟨rfl, hb1⟩
  go_wp2_with fail
  (with_reducible refine (enc_any _ _ h0 hu).mono ?_)
  rintro e w2 ⟨aa, ca, rfl, hA2, hb2⟩
  go_wp2_with fail
  (with_reducible refine (enc_any _ _ h0 hu).mono ?_)
  rintro e w3 ⟨ab, cb, rfl, hB3, hb3⟩
  rw [HQ.out] at hA2 hB3 ⊢
  have nAB := ne_later hA2 hB3 (Nat.le_refl _)
  have z1 := hb1.size
  have z2 := hb2.size
  have hA3 := own_below hA2 hb3
  have hbb3 := below_next (below_next hb1 hb2) hb3
  clear hA2 hb1 hb2 hb3
  have ho1 := own_lit w3 [] 0 1 22 rfl (by decide)
  have hmd := below_made w3 (.cells [].toArray 22)
  have hm := below_next hbb3 hmd
  have hsz := hm.size
  have hsz3 := hbb3.size
  go_wp2_with (at_builtin; refine wpList_app rfl _ _ 41 rfl slU rfl ho1 rfl (r.below hm) (U_one _) (by omega) (by simp) fun a2 c2 w4 hM4 hg4 => ?_)
  have hA4 := own_apart hA3 hmd ho1 (Nat.le_refl _) hg4
  have hB4 := own_apart hB3 hmd ho1 (Nat.le_refl _) hg4
  have hbb4 := hm.grown hg4 hsz (fun k hk => by have := own_block ho1 k hk; omega)
  have r4 := own_rowAt hM4
  rw [List.nil_append, Nat.zero_add] at r4
  clear ho1 hm hmd hM4 hg4 hbb3 hA3 hB3 hsz hsz3
  (with_reducible refine (encAll_any _ _ _ us _ (by have := HM.out; omega) r4).mono ?_)
  rintro e w5 ⟨ac, cc, rfl, hC5, hb5⟩
  have r5 := r4.below hb5
  have z4 := hbb4.size
  have z5 := hb5.size
  go_wp2_with fail
  (with_reducible refine (encAll_any _ _ _ us _ (by have := HM.out; omega) r5).mono ?_)
  rintro e w6 ⟨ad, cd, rfl, hD6, hb6⟩
  rw [HM.out] at hC5 hD6 ⊢
  have nAC := ne_later hA4 hC5 (Nat.le_refl _)
  have nBC := ne_later hB4 hC5 (Nat.le_refl _)
  have nCD := ne_later hC5 hD6 (Nat.le_refl _)
  have hA5 := own_below hA4 hb5
  have hB5 := own_below hB4 hb5
  have nAD := ne_later hA5 hD6 (Nat.le_refl _)
  have nBD := ne_later hB5 hD6 (Nat.le_refl _)
  have hA := own_mono (own_below hA5 hb6) (show w.heap.size ≤ _ by omega)
  have hB := own_mono (own_below hB5 hb6) (show w.heap.size ≤ _ by omega)
  have hC := own_mono (own_below hC5 hb6) (show w.heap.size ≤ _ by omega)
  have hD := own_mono hD6 (show w.heap.size ≤ _ by omega)
  have hbw := below_next (below_next hbb4 hb5) hb6
  clear r4 r5 hA4 hB4 hA5 hB5 hC5 hD6 hb5 hb6 hbb4 z1 z2 z4 z5
  go_wp2_with fail
  have hq0 := enc_len_pos u.toNat
  rw [HQ.out] at hq0
  obtain ⟨ga, rfl⟩ := own_some hA (by omega)
  go_loopw [10, 36] (fun _ iv wr => ∃ (k : Nat) (xs : List Value), iv = .int .i64 (k : Int) ∧ k ≤ q ∧ wr.ownsRow w.heap.size 5 1 (.slice (some ⟨ga, 0, none⟩) q ca) q xs ∧ w6.grownBy wr (some ga)) (fun _ iv _ => q - (intOf iv).toNat)
  case atStart => exact ⟨0, _, rfl, Nat.zero_le _, hA, grownBy_refl _ _⟩
  case round =>
    clear hA
    obtain ⟨k, xs, rfl, hk, hA, hG⟩ := hrel
    by_cases hlt : k < q
    · obtain ⟨⟨v0, _, hc0⟩, hf0, hst⟩ := own_cell hA k hlt
      obtain ⟨hA1, hG1⟩ := hst (.int .u8 238)
      have hG2 := grownBy_trans hG hG1
      clear hst hG hG1
      go_wp2_with fail
      go_roundw
      case rel => exact ⟨k + 1, _, by go_num, by omega, hA1, hG2⟩
      case measure => first | (simp [intOf]; omega) | simp [intOf]
    · have hB' := own_ne (row := .slice (some ⟨ga, 0, none⟩) q ca) hB hG nAB
      have hC' := own_ne (row := .slice (some ⟨ga, 0, none⟩) q ca) hC hG nAC
      have hD' := own_ne (row := .slice (some ⟨ga, 0, none⟩) q ca) hD hG nAD
      have hbw' := hbw.grown hG hbw.size (own_block hA)
      clear hB hC hD hbw hG
      obtain ⟨w7, rfl⟩ : ∃ w7 : World, w7 = wr := ⟨_, rfl⟩
      go_wp2_with fail
      have hm0 : 0 < m := by have := HM.out; rw [encAll, List.length_append] at this; have := enc_len_pos us.length; omega
      obtain ⟨gc, rfl⟩ := own_some hC' (by omega)
      go_loopw [11, 45] (fun _ iv wr => ∃ (k : Nat) (xs : List Value), iv = .int .i64 (k : Int) ∧ k ≤ m ∧ wr.ownsRow w.heap.size 5 1 (.slice (some ⟨gc, 0, none⟩) m cc) m xs ∧ w7.grownBy wr (some gc)) (fun _ iv _ => m - (intOf iv).toNat)
      case atStart => exact ⟨0, _, rfl, Nat.zero_le _, hC', grownBy_refl _ _⟩
      case round =>
        clear hC'
        obtain ⟨k, ys, rfl, hk, hC, hG⟩ := hrel
        by_cases hlt : k < m
        · obtain ⟨⟨v0, _, hc0⟩, hf0, hst⟩ := own_cell hC k hlt
          obtain ⟨hC1, hG1⟩ := hst (.int .u8 221)
          have hG2 := grownBy_trans hG hG1
          clear hst hG hG1
          go_wp2_with fail
          go_roundw
          case rel => exact ⟨k + 1, _, by go_num, by omega, hC1, hG2⟩
          case measure => first | (simp [intOf]; omega) | simp [intOf]
        · have hB := own_ne (row := .slice (some ⟨gc, 0, none⟩) m cc) hB' hG nBC.symm
          have hA' := own_ne (row := .slice (some ⟨gc, 0, none⟩) m cc) hA hG nAC.symm
          have hD := own_ne (row := .slice (some ⟨gc, 0, none⟩) m cc) hD' hG nCD
          have hbw := hbw'.grown hG hbw'.size (own_block hC)
          clear hB' hA hD' hbw' hG
          obtain ⟨w8, rfl⟩ : ∃ w8 : World, w8 = wr := ⟨_, rfl⟩
          go_wp2_with fail
          go_loopw [5, 8, 12] (fun av cv iv wr => ∃ (k qa qc : Nat) (aa ac : Option Addr) (ca cc : Nat) (xs ys : List Value), iv = .int .i64 (k : Int) ∧ k ≤ 16 ∧ qa ≤ 100 ∧ qa = q + k ∧ qc = m + k ∧
            av = .slice aa qa ca ∧ cv = .slice ac qc cc ∧ wr.ownsRow w.heap.size 5 1 (.slice aa qa ca) qa xs ∧ wr.ownsRow w.heap.size 5 1 (.slice ac qc cc) qc ys ∧
            wr.ownsRow w.heap.size 5 1 (.slice ab q cb) q ((enc u.toNat).map B) ∧ wr.ownsRow w.heap.size 5 1 (.slice ad m cd) m ((encAll us).map B) ∧
            Ne2 (.slice aa qa ca) (.slice ab q cb) ∧ Ne2 (.slice aa qa ca) (.slice ac qc cc) ∧ Ne2 (.slice aa qa ca) (.slice ad m cd) ∧ Ne2 (.slice ac qc cc) (.slice ab q cb) ∧ Ne2 (.slice ac qc cc) (.slice ad m cd) ∧
            Below w.heap.size w wr) (fun _ _ iv _ => 16 - (intOf iv).toNat)
          case atStart => exact ⟨0, q, m, _, _, ca, cc, xs, ys, rfl, by omega, by omega, rfl, rfl, rfl, rfl, hA', hC, hB, hD, nAB, nAC, nAD, nBC.symm, nCD, hbw⟩
          case round =>
            clear hA' hC hB hD nAB nAC nAD nBC nCD hbw nBD
            obtain ⟨k, qa, qc, aa, ac, ca, cc, xs, ys, rfl, hk, hqk, hqa, hqc, rfl, rfl, hA, hC, hB, hD, nAB, nAC, nAD, nCB, nCD, hbw⟩ := hrel
            have HQA := Lib.hid hqa; clear hqa
            have HQC := Lib.hid hqc
            have hqc' : qc + 1 ≤ 100000000 := by omega
            clear hqc
            have hsz := hbw.size
            by_cases hlt : k < 16
            · go_wp2_with (first
                | (at_builtin; refine wpList_app1N rfl (.tmp 56) _ 29 rfl slB rfl hA rfl rfl (one1 _ _) (by omega) (by omega) fun a3 c3 w3 hA2 hg2 hn2 => ?_; have z3 := hg2.size; have hC2 := own_ne hC hg2 nAC)
                | (at_builtin; refine wpList_app1N rfl (.tmp 59) _ 29 rfl slB rfl hC2 rfl rfl (one1 _ _) (by omega) (by omega) fun a4 c4 w4 hC3 hg3 hn3 => ?_))
              have ltB := fun k hk => (hB.lt k hk).2
              have ltC := fun k hk => (hC.lt k hk).2
              have ltD := fun k hk => (hD.lt k hk).2
              have mAB := ne_new hn2 nAB ltB
              have mAC := ne_new hn2 nAC ltC
              have mAD := ne_new hn2 nAD ltD
              have hB2 := own_ne hB hg2 nAB
              have hD2 := own_ne hD hg2 nAD
              have ltA2 := fun k hk => (hA2.lt k hk).2
              have ltB2 := fun k hk => (hB2.lt k hk).2
              have ltD2 := fun k hk => (hD2.lt k hk).2
              go_roundw
              case rel =>
                exact ⟨k + 1, qa + 1, qc + 1, a3, a4, c3, c4, _, _, by go_num, by omega, by have := HQA.out; omega, by have := HQA.out; omega, by have := HQC.out; omega, rfl, rfl, own_ne hA2 hg3 mAC.symm, hC3, own_ne hB2 hg3 nCB, own_ne hD2 hg3 nCD,
                  mAB, (ne_new hn3 mAC.symm ltA2).symm, mAD, ne_new hn3 nCB ltB2, ne_new hn3 nCD ltD2, (hbw.grown hg2 hsz (own_block hA)).grown hg3 (by omega) (own_block hC2)⟩
              case measure => first | (simp [intOf]; omega) | simp [intOf]
            · have rB := own_rowAt hB
              have rD := own_rowAt hD
              clear hA hC hB hD nAB nAC nAD nCB nCD hsz
              go_wp2_with fail
              (with_reducible refine (rencAll_any _ _ _ us _ (by have := HM.out; omega) (r.below hbw)).mono ?_)
              rintro e x1 ⟨ae, ce, rfl, hE, hb2⟩
              have rE := own_rowAt hE
              have rB1 := rB.below hb2
              have rD1 := rD.below hb2
              have hb3 := below_next hbw hb2
              rw [HM.out] at rE ⊢
              clear hE rB rD hb2 hbw
              go_wp2_with fail
              (with_reducible refine (renc_n _ _ _ (Nat.le_refl _) h0 hu).mono ?_)
              rintro e x2 ⟨af, cf, rfl, hF, hb2⟩
              have rF := own_rowAt hF
              have rB := rB1.below hb2
              have rD := rD1.below hb2
              have rE1 := rE.below hb2
              have hb4 := below_next hb3 hb2
              clear hF rB1 rD1 hb2 hb3 rE
              go_wp2_with fail
              (with_reducible refine (same_any _ _ _ _ _ _ _ _ _ rB rF).mono ?_)
              rintro e x3 ⟨rfl, hst⟩
              have rD1 := rD.still hst
              have rE := rE1.still hst
              have hb5 := below_still hb4 hst
              clear rB rF rD rE1 hb4 hst
              rw [beq_self_eq_true]
              go_wp2_with fail
              (with_reducible refine (same_any _ _ _ _ _ _ _ _ _ rD1 rE).mono ?_)
              rintro e x4 ⟨rfl, hst⟩
              have rE1 := rE.still hst
              have hb4 := below_still hb5 hst
              clear rD1 rE hb5 hst
              rw [beq_self_eq_true]
              go_wp2_with fail
              (with_reducible refine (decAll_any _ _ _ (encAll us) (n : Int) _ (by omega) rE1 (by omega) (by omega)).mono ?_)
              rintro e x5 ⟨ax, cx, rfl, hX, hb2⟩
              have rE := rE1.below hb2
              have hb5 := below_next hb4 hb2
              have z1 := hb4.size
              have hX1 := own_mono hX z1
              rw [HD.out] at hX hX1 ⊢
              clear rE1 hb4 hb2
              go_wp2_with fail
              (with_reducible refine (decAll_any _ _ _ (encAll us) (n : Int) _ (by omega) rE (by omega) (by omega)).mono ?_)
              rintro e x6 ⟨ay, cy, rfl, hY, hb2⟩
              rw [HD.out] at hY ⊢
              have nXY := ne_later hX hY (Nat.le_refl _)
              have hX2 := own_below hX1 hb2
              have hb6 := below_next hb5 hb2
              have hY2 := own_mono hY (show w.heap.size ≤ _ from hb5.size)
              have hus : us.length = n := H1.out
              simp only [hus] at hX2 hY2 nXY ⊢
              clear hX hX1 hY hb2 hb5 z1 rE hus
              go_wp2_with fail
              go_loopw [20, 93] (fun _ iv wr => ∃ (k : Nat) (xs : List UInt64), iv = .int .i64 (k : Int) ∧ k ≤ n ∧ wr.ownsRow w.heap.size 22 1 (.slice ax n cx) n (xs.map U) ∧ x6.grownBy wr (Value.slice ax n cx).ownBlock) (fun _ iv _ => n - (intOf iv).toNat)
              case atStart => exact ⟨0, us, rfl, Nat.zero_le _, hX2, grownBy_refl _ _⟩
              case round =>
                clear hX2
                obtain ⟨k, xs, rfl, hk, hX, hG⟩ := hrel
                by_cases hlt : k < n
                · obtain ⟨gx, rfl⟩ := own_some hX (by omega)
                  obtain ⟨⟨v0, hv0, hc0⟩, hf0, hst⟩ := own_cell hX k hlt
                  rw [List.getElem?_map, Option.map_eq_some_iff] at hv0
                  obtain ⟨xv, hxv, rfl⟩ := hv0
                  obtain ⟨hX1, hG1⟩ := hst (.int .u64 (IntKind.u64.wrap ((xv.toNat : Int) + 1)))
                  have hG2 := grownBy_trans hG hG1
                  clear hst hG hG1 hxv
                  unfold U at hc0
                  go_wp2_with fail
                  go_roundw
                  case rel => exact ⟨k + 1, xs.set k (UInt64.ofNat (xv.toNat + 1)), by go_num, by omega, by rw [set_U'] at hX1; exact hX1, hG2⟩
                  case measure => first | (simp [intOf]; omega) | simp [intOf]
                · have hY := own_ne (row := .slice ax n cx) hY2 hG nXY
                  have rY := own_rowAt hY
                  have hb7 := hb6.grown hG hb6.size (own_block hX)
                  clear hX hY2 hY hG nXY hb6
                  go_wp2_with fail
                  (with_reducible refine (sameNums_any _ _ _ us _ _ _ us _ rY (r.below hb7)).mono ?_)
                  rintro e x7 ⟨rfl, hst⟩
                  have hb8 := below_still hb7 hst
                  rw [beq_self_eq_true]
                  clear hst hb7 rY
                  go_wp2_with fail
                  go_ret
                  exact ⟨rfl, hb8⟩
end Go.Proofs.Ythejahoiodoalaa
