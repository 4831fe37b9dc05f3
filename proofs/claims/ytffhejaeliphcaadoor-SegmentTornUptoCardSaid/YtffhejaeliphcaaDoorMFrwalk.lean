/-
  The walks of the reference's Peek and Decode of a frame, and of Same. Condition: the argument reads as bytes.
-/
import Derived.Test.YtffhejaeliphcaaDoorMFdec
import Derived.Test.YtffhejaeliphcaaDoorMFb
import Derived.Deep.RegionWith
namespace Go.Proofs.YtffhejaeliphcaaDoor
open Go.RowKit
set_option linter.unusedVariables false

theorem seq_split {l : List UInt8} {x y : UInt8} (hx : l[10]? = some x) (hy : l[11]? = some y) : seqOf l = num ((l.drop 4).take 6) + 281474976710656 * (x.toNat + 256 * y.toNat) := by
  have hl : 12 ≤ l.length := by have := (List.getElem?_eq_some_iff.1 hy).1; omega
  have h1 : (l.drop 4).take 8 = (l.drop 4).take 6 ++ [x, y] := by
    rw [List.take_add_one, List.take_add_one, List.getElem?_drop, List.getElem?_drop, hx, hy]; simp
  unfold seqOf
  rw [h1, num_split, List.length_take, List.length_drop, Nat.min_eq_left (by omega)]
  rw [show (2 : Nat) ^ (8 * 6) = 281474976710656 by decide]
  simp only [num_cons]
  rfl

theorem closed16 {l : List UInt8} (h : 16 ≤ l.length) : (((l.take 16).drop 12) == four (sumN 0 (l.take 12))) = closedB (l.take 16) := by
  have e16 : (l.take 16).length = 16 := by rw [List.length_take]; omega
  unfold closedB
  rw [e16, List.take_take]
  simp only [show (4 ≤ 16) = True by simp, decide_true, Bool.true_and, Nat.reduceSub]
  rw [show min 12 16 = 12 by decide]
  rw [Bool.eq_iff_iff, beq_iff_eq, beq_iff_eq]
  exact ⟨Eq.symm, Eq.symm⟩

set_option maxHeartbeats 3200000 in
theorem rpeek_any (a : Option Addr) (n c : Nat) (l : List UInt8) (w : World) (r : RowAt w a n c 1 (l.map B)) :
    Calls Tryd.prog 53 #[.slice a n c] w fun e w' => e = .returned (peekV l) ∧ Below w.heap.size w w' := by
  have e1 : l.length = n := by simpa using r.len
  have m1 := r.2.2.1
  have m2 := r.2.1
  unfold maxLen at m1
  have H1 := Lib.hid e1
  by_cases h16 : n < 16
  · have HV : Hid (peekF l = (0, 0, 0, 60)) := Lib.hid (by unfold peekF; rw [if_pos (by omega)])
    clear e1
    go_enter Tryd.func53, Tryd.ntmps53
    go_wp2_with fail
    exact bodyPost_ret (v := peekV l) (by unfold peekV; rw [HV.out]; simp [results, Tryd.results53, go_sem]) rfl ⟨rfl, Below.refl _ _⟩
  · obtain ⟨b0, o0, x0, rfl, hx0, hc0⟩ := r.byte 0 (by omega)
    simp only [Nat.add_zero] at hc0
    have hg0 : l.getD 0 0 = x0 := by rw [List.getD_eq_getElem?_getD, hx0]; rfl
    by_cases h165 : x0 = 165
    · subst h165
      have hc0' : w.cell? ⟨b0, o0, none⟩ = some (.int .u8 165) := hc0
      clear hc0
      have r12 := rowB_upto r (show 12 ≤ n by omega)
      obtain ⟨a4, hcut, r4⟩ : ∃ a4, (∀ wx, (Instr.slice 22 (.slice (some ⟨b0, o0, none⟩) n c) (some (.int .i64 12)) (some (.int .i64 16)) none).run Tryd.prog wx = .ok (.slice a4 4 (c - 12)) wx) ∧ RowAt w a4 4 (c - 12) 1 (((l.take 16).drop 12).map B) := by
        have h1 := cut_mid slB r 12 16 (by omega) (by omega)
        obtain ⟨a4, h2, h3⟩ := h1
        refine ⟨a4, h2, ?_⟩
        rwa [Nat.mul_one, Nat.mul_one, ← List.map_take, ← List.map_drop] at h3
      have hcut0 : ∀ wx, (Instr.slice 22 (.slice (some ⟨b0, o0, none⟩) n c) none (some (.int .i64 12)) none).run Tryd.prog wx = .ok (.slice (some ⟨b0, o0, none⟩) 12 c) wx := fun wx => run_cut0 slB wx 12 (by omega)
      have hcl := closed16 (l := l) (by omega)
      have hsl := sumN_lt 0 (l.take 12)
      obtain ⟨z, hz⟩ : ∃ z, closedB (l.take 16) = z := ⟨_, rfl⟩
      rw [hz] at hcl
      have HC := Lib.hid hcl
      have HV0 : Hid (peekF l = if z = false then (0, 0, 0, 62) else if kindOf l = 0 ∨ 7 < kindOf l ∨ 16384 < lenOf l ∨ 1099511627776 < seqOf l then (0, 0, 0, 63) else (kindOf l, seqOf l, 20 + lenOf l, 0)) := Lib.hid (by unfold peekF; rw [if_neg (by omega), hg0, if_neg (by simp), hz])
      clear e1 hz hx0 hg0 hcl
      go_enter Tryd.func53, Tryd.ntmps53
      go_wp2_with fail
      go_region_with (first
        | (go_at_call 55; refine (rsum_any _ _ _ (l.take 12) _ (by exact rowAt_drew r12)).mono ?_; rintro e w3 ⟨rfl, rfl⟩)
        | (go_at_call 54; refine (rfour_any _ _ hsl).mono ?_; rintro e w3 ⟨a5, c5, rfl, ho5, hb5⟩; have hb6 : Below w.heap.size w w3 := ((Still.one w 1).below _).trans hb5; have r5 := own_rowAt ho5; have r6 := r4.below hb6)
        | (go_at_call 15; refine (same_any _ _ _ ((l.take 16).drop 12) _ _ _ (four (sumN 0 (l.take 12))) _ r6 r5).mono ?_; rintro e w7 ⟨rfl, hst7⟩; rw [HC.out]; have hb8 := below_still hb6 hst7; clear r5 r6 hst7 ho5 hb5))
      cases z with
      | false =>
        have HE : Hid (peekF l = (0, 0, 0, 62)) := Lib.hid (by rw [HV0.out, if_pos rfl])
        have hb9 := hb8
        go_wp2_with fail
        refine bodyPost_ret (v := peekV l) (by unfold peekV; rw [HE.out]; simp [results, Tryd.results53, go_sem]) rfl ⟨rfl, hb9⟩
      | true =>
        have HV : Hid (peekF l = if kindOf l = 0 ∨ 7 < kindOf l ∨ 16384 < lenOf l ∨ 1099511627776 < seqOf l then (0, 0, 0, 63) else (kindOf l, seqOf l, 20 + lenOf l, 0)) := Lib.hid (by rw [HV0.out, if_neg (by simp)])
        have r1 := r.below hb8
        obtain ⟨b2, o2, x2, hba, hx2, hc2⟩ := r1.byte 2 (by omega)
        cases hba
        obtain ⟨b3, o3, x3, hba, hx3, hc3⟩ := r1.byte 3 (by omega)
        cases hba
        obtain ⟨b4, o4, x1, hba, hx1, hc1⟩ := r1.byte 1 (by omega)
        cases hba
        obtain ⟨b5, o5, x10, hba, hx10, hc10⟩ := r1.byte 10 (by omega)
        cases hba
        obtain ⟨b6, o6, x11, hba, hx11, hc11⟩ := r1.byte 11 (by omega)
        cases hba
        have HQ := Lib.hid (seq_split hx10 hx11)
        have HK : Hid (kindOf l = x1.toNat) := Lib.hid (by unfold kindOf; rw [List.getD_eq_getElem?_getD, hx1]; rfl)
        have HN : Hid (lenOf l = x2.toNat + 256 * x3.toNat) := Lib.hid (by unfold lenOf; rw [List.getD_eq_getElem?_getD, List.getD_eq_getElem?_getD, hx2, hx3]; rfl)
        have hk1 := x1.toNat_lt
        have hx2l := x2.toNat_lt
        have hx3l := x3.toNat_lt
        have i1 : (1 : Int) < (n : Int) := by omega
        have i2 : (2 : Int) < (n : Int) := by omega
        have i3 : (3 : Int) < (n : Int) := by omega
        have i10 : (10 : Int) < (n : Int) := by omega
        have i11 : (11 : Int) < (n : Int) := by omega
        obtain ⟨u, hu⟩ : ∃ u, ((x10.toNat : Int) != 0) = u := ⟨_, rfl⟩
        obtain ⟨v, hv⟩ : ∃ v, ((x11.toNat : Int) != 0) = v := ⟨_, rfl⟩
        have HU := Lib.hid hu
        have HW := Lib.hid hv
        clear hx2 hx3 hx1 hx10 hx11
        have hcase : (u = true ∧ x10.toNat ≠ 0) ∨ (u = false ∧ v = true ∧ x11.toNat ≠ 0) ∨ (u = false ∧ v = false ∧ x10.toNat = 0 ∧ x11.toNat = 0) := by
          cases u with
          | true => left; refine ⟨rfl, ?_⟩; intro h; rw [h] at hu; simp at hu
          | false =>
            right
            have hu0 : x10.toNat = 0 := by
              by_cases h : x10.toNat = 0
              · exact h
              · exfalso
                have : ((x10.toNat : Int) != 0) = true := by rw [bne_iff_ne]; omega
                rw [this] at hu; cases hu
            cases v with
            | true => left; refine ⟨rfl, rfl, ?_⟩; intro h; rw [h] at hv; simp at hv
            | false =>
              right
              refine ⟨rfl, rfl, hu0, ?_⟩
              by_cases h : x11.toNat = 0
              · exact h
              · exfalso
                have : ((x11.toNat : Int) != 0) = true := by rw [bne_iff_ne]; omega
                rw [this] at hv; cases hv
        rcases hcase with ⟨rfl, hb⟩ | ⟨rfl, rfl, hb⟩ | ⟨rfl, rfl, hb⟩
        all_goals
          have HBB := Lib.hid hb
          clear hb HU HW
          go_wp2_with fail
          go_quiet (fail)
          obtain ⟨N, hN⟩ : ∃ N, x2.toNat + 256 * x3.toNat = N := ⟨_, rfl⟩
          have hNi : (x2.toNat : Int) + 256 * (x3.toNat : Int) = (N : Int) := by omega
          have hnb : N < 65536 := by omega
          rw [hN] at HN
          clear hN
          go_wp2_with fail
          go_loopw [8, 9] (fun sv iv wr => ∃ (k : Nat) (S : Int), iv = .int .i64 ((k : Int) + 3) ∧ sv = .int .i64 S ∧ k ≤ 6 ∧ 0 ≤ S ∧ S ≤ 281474976710655 ∧ Hid (S = ((num ((l.drop (4 + k)).take (6 - k)) : Nat) : Int)) ∧ Below w7.heap.size w7 wr) (fun _ iv _ => (intOf iv).toNat)
          case atStart => exact ⟨6, 0, rfl, rfl, Nat.le_refl _, Int.le_refl _, by decide, Lib.hid (by simp [num]), (Still.one _ _).below _⟩
          case round =>
            obtain ⟨k, S, rfl, rfl, hk, hS0, hS1, HS, hbr⟩ := hrel
            have rr := r1.below hbr
            by_cases hlt : 1 ≤ k
            · obtain ⟨j, rfl⟩ : ∃ j, k = j + 1 := ⟨k - 1, by omega⟩
              obtain ⟨b7, o7, x, hba, hx, hcx⟩ := rr.byte (4 + j) (by omega)
              cases hba
              have hxl := x.toNat_lt
              have hnum : 256 * S + (x.toNat : Int) = ((num ((l.drop (4 + j)).take (6 - j)) : Nat) : Int) := by
                have hd : (l.drop (4 + j)).take (6 - j) = x :: (l.drop (4 + (j + 1))).take (6 - (j + 1)) := by
                  obtain ⟨hjl, hxe⟩ := List.getElem?_eq_some_iff.1 hx
                  rw [List.drop_eq_getElem_cons hjl, hxe, show 6 - j = (6 - (j + 1)) + 1 by omega, List.take_succ_cons]
                  rfl
                rw [hd, num_cons, HS.out]; omega
              have hbd : 256 * S + (x.toNat : Int) ≤ 281474976710655 := by
                have h1 := num_lt ((l.drop (4 + j)).take (6 - j))
                have h2 : ((l.drop (4 + j)).take (6 - j)).length ≤ 6 := by rw [List.length_take]; omega
                have h3 : 2 ^ (8 * ((l.drop (4 + j)).take (6 - j)).length) ≤ 2 ^ 48 := Nat.pow_le_pow_right (by decide) (by omega)
                rw [hnum]; omega
              have HM := Lib.hid hnum
              have j1 : ((j + 1 : Nat) : Int) + 3 = (j : Int) + 4 := by omega
              have j2 : ((j : Int) + 4).toNat = 4 + j := by omega
              have j3 : (j : Int) + 4 < (n : Int) := by omega
              have j4 : ((j : Int) + 4) - 1 = (j : Int) + 3 := by omega
              rw [j1]
              clear hx hnum
              go_wp2_with fail
              go_roundw
              case rel => exact ⟨j, 256 * S + (x.toNat : Int), vint (by omega), rfl, by omega, by omega, hbd, HM, hbr⟩
              case measure => simp [intOf]; omega
            · obtain rfl : k = 0 := by omega
              have k1 : ¬ (4 : Int) ≤ ((0 : Nat) : Int) + 3 := by omega
              obtain ⟨b8, o8, y1, hba, hy1, hcy⟩ := rr.byte 1 (by omega)
              cases hba
              have hyx : y1.toNat = x1.toNat := by
                have := HK.out; unfold kindOf at this; rw [List.getD_eq_getElem?_getD, hy1] at this; exact this
              rw [hyx] at hcy
              obtain ⟨kd, hkd⟩ : ∃ kd, x1.toNat = kd := ⟨_, rfl⟩
              rw [hkd] at hcy HK hk1
              have hb9 := below_next hb8 hbr
              have hSn : S = ((num ((l.drop 4).take 6) : Nat) : Int) := HS.out
              obtain ⟨Q, hQ⟩ : ∃ Q, num ((l.drop 4).take 6) = Q := ⟨_, rfl⟩
              rw [hQ] at HQ hSn
              have HSn := Lib.hid hSn
              have hST : S.toNat = Q := by omega
              have HST := Lib.hid hST
              clear hyx hy1 hkd hc1 hc2 hc3 hc10 hc11 rr hSn hQ hST
              by_cases c1 : kd < 1
              · have b1 : (kd : Int) < 1 := by omega
                have HE : Hid (peekF l = (0, 0, 0, 63)) := Lib.hid (by rw [HV.out, HK.out, if_pos (by omega)])
                go_wp2_with fail
                exact bodyPost_ret (v := peekV l) (by unfold peekV; rw [HE.out]; simp [results, Tryd.results53, go_sem]) rfl ⟨rfl, hb9⟩
              · have b1 : ¬ (kd : Int) < 1 := by omega
                by_cases c2 : 7 < kd
                · have b2 : (7 : Int) < (kd : Int) := by omega
                  have HE : Hid (peekF l = (0, 0, 0, 63)) := Lib.hid (by rw [HV.out, HK.out, if_pos (by omega)])
                  go_wp2_with fail
                  exact bodyPost_ret (v := peekV l) (by unfold peekV; rw [HE.out]; simp [results, Tryd.results53, go_sem]) rfl ⟨rfl, hb9⟩
                · have b2 : ¬ (7 : Int) < (kd : Int) := by omega
                  by_cases c3 : 16384 < N
                  · have b3 : (16384 : Int) < (N : Int) := by omega
                    have HE : Hid (peekF l = (0, 0, 0, 63)) := Lib.hid (by rw [HV.out, HK.out, HN.out, if_pos (by omega)])
                    go_wp2_with fail
                    exact bodyPost_ret (v := peekV l) (by unfold peekV; rw [HE.out]; simp [results, Tryd.results53, go_sem]) rfl ⟨rfl, hb9⟩
                  · have b3 : ¬ (16384 : Int) < (N : Int) := by omega
                    by_cases c4 : 1099511627776 < S
                    · have HE : Hid (peekF l = (0, 0, 0, 63)) := Lib.hid (by rw [HV.out, HK.out, HN.out, HQ.out, if_pos (by have := HSn.out; omega)])
                      go_wp2_with fail
                      exact bodyPost_ret (v := peekV l) (by unfold peekV; rw [HE.out]; simp [results, Tryd.results53, go_sem]) rfl ⟨rfl, hb9⟩
                    · first
                      | (have HE : Hid (peekF l = (0, 0, 0, 63)) := Lib.hid (by rw [HV.out, HK.out, HN.out, HQ.out, if_pos (by have := HBB.out; omega)])
                         go_wp2_with fail
                         exact bodyPost_ret (v := peekV l) (by unfold peekV; rw [HE.out]; simp [results, Tryd.results53, go_sem]) rfl ⟨rfl, hb9⟩)
                      | (have HE : Hid (peekF l = (kd, Q, 20 + N, 0)) := Lib.hid (by
                           have hb := HBB.out
                           rw [hb.1, hb.2] at HQ
                           rw [HV.out, HK.out, HN.out, HQ.out, if_neg (by have := HSn.out; omega)]; simp)
                         go_wp2_with fail
                         exact bodyPost_ret (v := peekV l) (by unfold peekV; rw [HE.out]; simp [results, Tryd.results53, go_sem, HSn.out]) rfl ⟨rfl, hb9⟩)
    · have HV : Hid (peekF l = (0, 0, 0, 61)) := Lib.hid (by unfold peekF; rw [if_neg (by omega), hg0, if_pos h165])
      have hne : ((x0.toNat : Int) != 165) = true := by
        rw [bne_iff_ne]; intro h; apply h165; apply UInt8.toNat_inj.1; show x0.toNat = 165; omega
      clear e1 hx0 hg0 h165
      go_enter Tryd.func53, Tryd.ntmps53
      go_wp2_with fail
      exact bodyPost_ret (v := peekV l) (by unfold peekV; rw [HV.out]; simp [results, Tryd.results53, go_sem]) rfl ⟨rfl, Below.refl _ _⟩
end Go.Proofs.YtffhejaeliphcaaDoor
