/-
  The walks of the reference's Peek and Decode of a frame, and of Same. Condition: the argument reads as bytes.
  The walks of the reference's Decode of a frame and of Same. Condition: the arguments read as bytes.
-/
import Derived.Test.YtffhejaeliphcaaDoorMFd
import Derived.Test.YtffhejaeliphcaaDoorMFb
import Derived.Deep.RegionWith
namespace Go.Proofs.YtffhejaeliphcaaDoor
open Go.RowKit
set_option linter.unusedVariables false

theorem seq_split {l : List UInt8} {x y : UInt8} (hx : l[10]? = some x) (hy : l[11]? = some y) : seqOf l = num ((l.drop 4).take 6) + 281474976710656 * (x.toNat + 256 * y.toNat) := by
  have hl : 12 ≤ l.length := by have := (List.getElem?_eq_some_iff.1 hy).1; omega
  have h1 : (l.drop 4).take 8 = (l.drop 4).take 6 ++ [x, y] := by
    rw [List.take_add_one, List.take_add_one, List.getElem?_drop, List.getElem?_drop, hx, hy]; simp
  unfold seqOf
  rw [h1, num_split, List.length_take, List.length_drop, Nat.min_eq_left (by omega)]
  rw [show (2 : Nat) ^ (8 * 6) = 281474976710656 by decide]
  simp only [num_cons]
  rfl

theorem closed16 {l : List UInt8} (h : 16 ≤ l.length) : (((l.take 16).drop 12) == four (sumN 0 (l.take 12))) = closedB (l.take 16) := by
  have e16 : (l.take 16).length = 16 := by rw [List.length_take]; omega
  unfold closedB
  rw [e16, List.take_take]
  simp only [show (4 ≤ 16) = True by simp, decide_true, Bool.true_and, Nat.reduceSub]
  rw [show min 12 16 = 12 by decide]
  rw [Bool.eq_iff_iff, beq_iff_eq, beq_iff_eq]
  exact ⟨Eq.symm, Eq.symm⟩

set_option maxHeartbeats 3200000 in
theorem rpeek_any (a : Option Addr) (n c : Nat) (l : List UInt8) (w : World) (r : RowAt w a n c 1 (l.map B)) :
    Calls Tryd.prog 53 #[.slice a n c] w fun e w' => e = .returned (peekV l) ∧ Below w.heap.size w w' := by
  have e1 : l.length = n := by simpa using r.len
  have m1 := r.2.2.1
  have m2 := r.2.1
  unfold maxLen at m1
  have H1 := Lib.hid e1
  by_cases h16 : n < 16
  · have HV : Hid (peekF l = (0, 0, 0, 60)) := Lib.hid (by unfold peekF; rw [if_pos (by omega)])
    clear e1
    go_enter Tryd.func53, Tryd.ntmps53
    go_wp2_with fail
    exact bodyPost_ret (v := peekV l) (by unfold peekV; rw [HV.out]; simp [results, Tryd.results53, go_sem]) rfl ⟨rfl, Below.refl _ _⟩
  · obtain ⟨b0, o0, x0, rfl, hx0, hc0⟩ := r.byte 0 (by omega)
    simp only [Nat.add_zero] at hc0
    have hg0 : l.getD 0 0 = x0 := by rw [List.getD_eq_getElem?_getD, hx0]; rfl
    by_cases h165 : x0 = 165
    · subst h165
      have hc0' : w.cell? ⟨b0, o0, none⟩ = some (.int .u8 165) := hc0
      clear hc0
      have r12 := rowB_upto r (show 12 ≤ n by omega)
      obtain ⟨a4, hcut, r4⟩ : ∃ a4, (∀ wx, (Instr.slice 22 (.slice (some ⟨b0, o0, none⟩) n c) (some (.int .i64 12)) (some (.int .i64 16)) none).run Tryd.prog wx = .ok (.slice a4 4 (c - 12)) wx) ∧ RowAt w a4 4 (c - 12) 1 (((l.take 16).drop 12).map B) := by
        have h1 := cut_mid slB r 12 16 (by omega) (by omega)
        obtain ⟨a4, h2, h3⟩ := h1
        refine ⟨a4, h2, ?_⟩
        rwa [Nat.mul_one, Nat.mul_one, ← List.map_take, ← List.map_drop] at h3
      have hcut0 : ∀ wx, (Instr.slice 22 (.slice (some ⟨b0, o0, none⟩) n c) none (some (.int .i64 12)) none).run Tryd.prog wx = .ok (.slice (some ⟨b0, o0, none⟩) 12 c) wx := fun wx => run_cut0 slB wx 12 (by omega)
      have hcl := closed16 (l := l) (by omega)
      have hsl := sumN_lt 0 (l.take 12)
      obtain ⟨z, hz⟩ : ∃ z, closedB (l.take 16) = z := ⟨_, rfl⟩
      rw [hz] at hcl
      have HC := Lib.hid hcl
      have HV0 : Hid (peekF l = if z = false then (0, 0, 0, 62) else if kindOf l = 0 ∨ 7 < kindOf l ∨ 16384 < lenOf l ∨ 1099511627776 < seqOf l then (0, 0, 0, 63) else (kindOf l, seqOf l, 20 + lenOf l, 0)) := Lib.hid (by unfold peekF; rw [if_neg (by omega), hg0, if_neg (by simp), hz])
      clear e1 hz hx0 hg0 hcl
      go_enter Tryd.func53, Tryd.ntmps53
      go_wp2_with fail
      go_region_with (first
        | (go_at_call 55; refine (rsum_any _ _ _ (l.take 12) _ (by exact rowAt_drew r12)).mono ?_; rintro e w3 ⟨rfl, rfl⟩)
        | (go_at_call 54; refine (rfour_any _ _ hsl).mono ?_; rintro e w3 ⟨a5, c5, rfl, ho5, hb5⟩; have hb6 : Below w.heap.size w w3 := ((Still.one w 1).below _).trans hb5; have r5 := own_rowAt ho5; have r6 := r4.below hb6)
        | (go_at_call 15; refine (same_any _ _ _ ((l.take 16).drop 12) _ _ _ (four (sumN 0 (l.take 12))) _ r6 r5).mono ?_; rintro e w7 ⟨rfl, hst7⟩; rw [HC.out]; have hb8 := below_still hb6 hst7; clear r5 r6 hst7 ho5 hb5))
      cases z with
      | false =>
        have HE : Hid (peekF l = (0, 0, 0, 62)) := Lib.hid (by rw [HV0.out, if_pos rfl])
        have hb9 := hb8
        go_wp2_with fail
        refine bodyPost_ret (v := peekV l) (by unfold peekV; rw [HE.out]; simp [results, Tryd.results53, go_sem]) rfl ⟨rfl, hb9⟩
      | true =>
        have HV : Hid (peekF l = if kindOf l = 0 ∨ 7 < kindOf l ∨ 16384 < lenOf l ∨ 1099511627776 < seqOf l then (0, 0, 0, 63) else (kindOf l, seqOf l, 20 + lenOf l, 0)) := Lib.hid (by rw [HV0.out, if_neg (by simp)])
        have r1 := r.below hb8
        obtain ⟨b2, o2, x2, hba, hx2, hc2⟩ := r1.byte 2 (by omega)
        cases hba
        obtain ⟨b3, o3, x3, hba, hx3, hc3⟩ := r1.byte 3 (by omega)
        cases hba
        obtain ⟨b4, o4, x1, hba, hx1, hc1⟩ := r1.byte 1 (by omega)
        cases hba
        obtain ⟨b5, o5, x10, hba, hx10, hc10⟩ := r1.byte 10 (by omega)
        cases hba
        obtain ⟨b6, o6, x11, hba, hx11, hc11⟩ := r1.byte 11 (by omega)
        cases hba
        have HQ := Lib.hid (seq_split hx10 hx11)
        have HK : Hid (kindOf l = x1.toNat) := Lib.hid (by unfold kindOf; rw [List.getD_eq_getElem?_getD, hx1]; rfl)
        have HN : Hid (lenOf l = x2.toNat + 256 * x3.toNat) := Lib.hid (by unfold lenOf; rw [List.getD_eq_getElem?_getD, List.getD_eq_getElem?_getD, hx2, hx3]; rfl)
        have hk1 := x1.toNat_lt
        have hx2l := x2.toNat_lt
        have hx3l := x3.toNat_lt
        have i1 : (1 : Int) < (n : Int) := by omega
        have i2 : (2 : Int) < (n : Int) := by omega
        have i3 : (3 : Int) < (n : Int) := by omega
        have i10 : (10 : Int) < (n : Int) := by omega
        have i11 : (11 : Int) < (n : Int) := by omega
        obtain ⟨u, hu⟩ : ∃ u, ((x10.toNat : Int) != 0) = u := ⟨_, rfl⟩
        obtain ⟨v, hv⟩ : ∃ v, ((x11.toNat : Int) != 0) = v := ⟨_, rfl⟩
        have HU := Lib.hid hu
        have HW := Lib.hid hv
        clear hx2 hx3 hx1 hx10 hx11
        have hcase : (u = true ∧ x10.toNat ≠ 0) ∨ (u = false ∧ v = true ∧ x11.toNat ≠ 0) ∨ (u = false ∧ v = false ∧ x10.toNat = 0 ∧ x11.toNat = 0) := by
          cases u with
          | true => left; refine ⟨rfl, ?_⟩; intro h; rw [h] at hu; simp at hu
          | false =>
            right
            have hu0 : x10.toNat = 0 := by
              by_cases h : x10.toNat = 0
              · exact h
              · exfalso
                have : ((x10.toNat : Int) != 0) = true := by rw [bne_iff_ne]; omega
                rw [this] at hu; cases hu
            cases v with
            | true => left; refine ⟨rfl, rfl, ?_⟩; intro h; rw [h] at hv; simp at hv
            | false =>
              right
              refine ⟨rfl, rfl, hu0, ?_⟩
              by_cases h : x11.toNat = 0
              · exact h
              · exfalso
                have : ((x11.toNat : Int) != 0) = true := by rw [bne_iff_ne]; omega
                rw [this] at hv; cases hv
        rcases hcase with ⟨rfl, hb⟩ | ⟨rfl, rfl, hb⟩ | ⟨rfl, rfl, hb⟩
        all_goals
          have HBB := Lib.hid hb
          clear hb HU HW
          go_wp2_with fail
          go_quiet (fail)
          obtain ⟨N, hN⟩ : ∃ N, x2.toNat + 256 * x3.toNat = N := ⟨_, rfl⟩
          have hNi : (x2.toNat : Int) + 256 * (x3.toNat : Int) = (N : Int) := by omega
          have hnb : N < 65536 := by omega
          rw [hN] at HN
          clear hN
          go_wp2_with fail
          go_loopw [8, 9] (fun sv iv wr => ∃ (k : Nat) (S : Int), iv = .int .i64 ((k : Int) + 3) ∧ sv = .int .i64 S ∧ k ≤ 6 ∧ 0 ≤ S ∧ S ≤ 281474976710655 ∧ Hid (S = ((num ((l.drop (4 + k)).take (6 - k)) : Nat) : Int)) ∧ Below w7.heap.size w7 wr) (fun _ iv _ => (intOf iv).toNat)
          case atStart => exact ⟨6, 0, rfl, rfl, Nat.le_refl _, Int.le_refl _, by decide, Lib.hid (by simp [num]), (Still.one _ _).below _⟩
          case round =>
            obtain ⟨k, S, rfl, rfl, hk, hS0, hS1, HS, hbr⟩ := hrel
            have rr := r1.below hbr
            by_cases hlt : 1 ≤ k
            · obtain ⟨j, rfl⟩ : ∃ j, k = j + 1 := ⟨k - 1, by omega⟩
              obtain ⟨b7, o7, x, hba, hx, hcx⟩ := rr.byte (4 + j) (by omega)
              cases hba
              have hxl := x.toNat_lt
              have hnum : 256 * S + (x.toNat : Int) = ((num ((l.drop (4 + j)).take (6 - j)) : Nat) : Int) := by
                have hd : (l.drop (4 + j)).take (6 - j) = x :: (l.drop (4 + (j + 1))).take (6 - (j + 1)) := by
                  obtain ⟨hjl, hxe⟩ := List.getElem?_eq_some_iff.1 hx
                  rw [List.drop_eq_getElem_cons hjl, hxe, show 6 - j = (6 - (j + 1)) + 1 by omega, List.take_succ_cons]
                  rfl
                rw [hd, num_cons, HS.out]; omega
              have hbd : 256 * S + (x.toNat : Int) ≤ 281474976710655 := by
                have h1 := num_lt ((l.drop (4 + j)).take (6 - j))
                have h2 : ((l.drop (4 + j)).take (6 - j)).length ≤ 6 := by rw [List.length_take]; omega
                have h3 : 2 ^ (8 * ((l.drop (4 + j)).take (6 - j)).length) ≤ 2 ^ 48 := Nat.pow_le_pow_right (by decide) (by omega)
                rw [hnum]; omega
              have HM := Lib.hid hnum
              have j1 : ((j + 1 : Nat) : Int) + 3 = (j : Int) + 4 := by omega
              have j2 : ((j : Int) + 4).toNat = 4 + j := by omega
              have j3 : (j : Int) + 4 < (n : Int) := by omega
              have j4 : ((j : Int) + 4) - 1 = (j : Int) + 3 := by omega
              rw [j1]
              clear hx hnum
              go_wp2_with fail
              go_roundw
              case rel => exact ⟨j, 256 * S + (x.toNat : Int), vint (by omega), rfl, by omega, by omega, hbd, HM, hbr⟩
              case measure => simp [intOf]; omega
            · obtain rfl : k = 0 := by omega
              have k1 : ¬ (4 : Int) ≤ ((0 : Nat) : Int) + 3 := by omega
              obtain ⟨b8, o8, y1, hba, hy1, hcy⟩ := rr.byte 1 (by omega)
              cases hba
              have hyx : y1.toNat = x1.toNat := by
                have := HK.out; unfold kindOf at this; rw [List.getD_eq_getElem?_getD, hy1] at this; exact this
              rw [hyx] at hcy
              obtain ⟨kd, hkd⟩ : ∃ kd, x1.toNat = kd := ⟨_, rfl⟩
              rw [hkd] at hcy HK hk1
              have hb9 := below_next hb8 hbr
              have hSn : S = ((num ((l.drop 4).take 6) : Nat) : Int) := HS.out
              obtain ⟨Q, hQ⟩ : ∃ Q, num ((l.drop 4).take 6) = Q := ⟨_, rfl⟩
              rw [hQ] at HQ hSn
              have HSn := Lib.hid hSn
              have hST : S.toNat = Q := by omega
              have HST := Lib.hid hST
              clear hyx hy1 hkd hc1 hc2 hc3 hc10 hc11 rr hSn hQ hST
              by_cases c1 : kd < 1
              · have b1 : (kd : Int) < 1 := by omega
                have HE : Hid (peekF l = (0, 0, 0, 63)) := Lib.hid (by rw [HV.out, HK.out, if_pos (by omega)])
                go_wp2_with fail
                exact bodyPost_ret (v := peekV l) (by unfold peekV; rw [HE.out]; simp [results, Tryd.results53, go_sem]) rfl ⟨rfl, hb9⟩
              · have b1 : ¬ (kd : Int) < 1 := by omega
                by_cases c2 : 7 < kd
                · have b2 : (7 : Int) < (kd : Int) := by omega
                  have HE : Hid (peekF l = (0, 0, 0, 63)) := Lib.hid (by rw [HV.out, HK.out, if_pos (by omega)])
                  go_wp2_with fail
                  exact bodyPost_ret (v := peekV l) (by unfold peekV; rw [HE.out]; simp [results, Tryd.results53, go_sem]) rfl ⟨rfl, hb9⟩
                · have b2 : ¬ (7 : Int) < (kd : Int) := by omega
                  by_cases c3 : 16384 < N
                  · have b3 : (16384 : Int) < (N : Int) := by omega
                    have HE : Hid (peekF l = (0, 0, 0, 63)) := Lib.hid (by rw [HV.out, HK.out, HN.out, if_pos (by omega)])
                    go_wp2_with fail
                    exact bodyPost_ret (v := peekV l) (by unfold peekV; rw [HE.out]; simp [results, Tryd.results53, go_sem]) rfl ⟨rfl, hb9⟩
                  · have b3 : ¬ (16384 : Int) < (N : Int) := by omega
                    by_cases c4 : 1099511627776 < S
                    · have HE : Hid (peekF l = (0, 0, 0, 63)) := Lib.hid (by rw [HV.out, HK.out, HN.out, HQ.out, if_pos (by have := HSn.out; omega)])
                      go_wp2_with fail
                      exact bodyPost_ret (v := peekV l) (by unfold peekV; rw [HE.out]; simp [results, Tryd.results53, go_sem]) rfl ⟨rfl, hb9⟩
                    · first
                      | (have HE : Hid (peekF l = (0, 0, 0, 63)) := Lib.hid (by rw [HV.out, HK.out, HN.out, HQ.out, if_pos (by have := HBB.out; omega)])
                         go_wp2_with fail
                         exact bodyPost_ret (v := peekV l) (by unfold peekV; rw [HE.out]; simp [results, Tryd.results53, go_sem]) rfl ⟨rfl, hb9⟩)
                      | (have HE : Hid (peekF l = (kd, Q, 20 + N, 0)) := Lib.hid (by
                           have hb := HBB.out
                           rw [hb.1, hb.2] at HQ
                           rw [HV.out, HK.out, HN.out, HQ.out, if_neg (by have := HSn.out; omega)]; simp)
                         go_wp2_with fail
                         exact bodyPost_ret (v := peekV l) (by unfold peekV; rw [HE.out]; simp [results, Tryd.results53, go_sem, HSn.out]) rfl ⟨rfl, hb9⟩)
    · have HV : Hid (peekF l = (0, 0, 0, 61)) := Lib.hid (by unfold peekF; rw [if_neg (by omega), hg0, if_pos h165])
      have hne : ((x0.toNat : Int) != 165) = true := by
        rw [bne_iff_ne]; intro h; apply h165; apply UInt8.toNat_inj.1; show x0.toNat = 165; omega
      clear e1 hx0 hg0 h165
      go_enter Tryd.func53, Tryd.ntmps53
      go_wp2_with fail
      exact bodyPost_ret (v := peekV l) (by unfold peekV; rw [HV.out]; simp [results, Tryd.results53, go_sem]) rfl ⟨rfl, Below.refl _ _⟩
end Go.Proofs.YtffhejaeliphcaaDoor

namespace Go.Proofs.YtffhejaeliphcaaDoor
open Go.RowKit
set_option linter.unusedVariables false

theorem closed_rest {l : List UInt8} {size : Nat} (h1 : 20 ≤ size) (h2 : size ≤ l.length) : (((l.take size).drop (size - 4)) == four (sumN 0 ((l.take (size - 4)).drop 16))) = closedB ((l.take size).drop 16) := by
  have e1 : ((l.take size).drop 16).length = size - 16 := by rw [List.length_drop, List.length_take]; omega
  unfold closedB
  rw [e1]
  have e2 : ((l.take size).drop 16).take (size - 16 - 4) = (l.take (size - 4)).drop 16 := by
    rw [List.take_drop, List.take_take]; congr 2; omega
  have e3 : ((l.take size).drop 16).drop (size - 16 - 4) = (l.take size).drop (size - 4) := by
    rw [List.drop_drop]; congr 1; omega
  rw [e2, e3]
  simp only [show (4 ≤ size - 16) = True by simp; omega, decide_true, Bool.true_and]
  rw [Bool.eq_iff_iff, beq_iff_eq, beq_iff_eq]
  exact ⟨Eq.symm, Eq.symm⟩

set_option maxHeartbeats 1600000 in
theorem frdec_any (a : Option Addr) (n c : Nat) (l : List UInt8) (w : World) (r : RowAt w a n c 1 (l.map B)) :
    Calls Tryd.prog 30 #[.slice a n c] w (GivesF 5 w (decF l)) := by
  have e1 : l.length = n := by simpa using r.len
  have m1 := r.2.2.1
  have m2 := r.2.1
  unfold maxLen at m1
  have hb0 := below_made w (.cells #[.int .i64 0, .int .i64 0, .slice none 0 0] 53)
  have h0 := heap_alloc_new w (.cells #[.int .i64 0, .int .i64 0, .slice none 0 0] 53)
  have hz0 : w.heap.size < (w.alloc (.cells #[.int .i64 0, .int .i64 0, .slice none 0 0] 53)).heap.size := by simp
  have r0 := r.below hb0
  obtain ⟨p1, p2, p3, p4, p5⟩ := peekF_bd l
  obtain ⟨y, hy⟩ : ∃ y, peekF l = y := ⟨_, rfl⟩
  obtain ⟨kind, seq, size, e⟩ := y
  rw [hy] at p1 p2 p3 p4 p5
  simp only at p1 p2 p3 p4 p5
  have HP : Hid (peekV l = .tuple #[.int .i64 (kind : Int), .int .i64 (seq : Int), .int .i64 (size : Int), .int .i64 (e : Int)]) := Lib.hid (by unfold peekV; rw [hy])
  have HD : Hid (decF l = if e ≠ 0 then (Fr.none, 0, e) else if l.length < size then (Fr.none, 0, 60) else if closedB ((l.take size).drop 16) = false then (Fr.none, 0, 62) else (⟨kind, seq, (l.take (size - 4)).drop 16⟩, size, 0)) := Lib.hid (by unfold decF; rw [hy])
  have H1 := Lib.hid e1
  clear hy
  by_cases he : e = 0
  · subst he
    obtain ⟨p6, p7, p8, p9⟩ := p5 rfl
    have HP0 : Hid (peekV l = .tuple #[.int .i64 (kind : Int), .int .i64 (seq : Int), .int .i64 (size : Int), .int .i64 0]) := Lib.hid HP.out
    clear p5 HP
    by_cases hs : n < size
    · have HE : Hid (decF l = (Fr.none, 0, 60)) := Lib.hid (by rw [HD.out, if_neg (by simp), if_pos (by omega)])
      clear e1 p8
      go_enter Tryd.func30, Tryd.ntmps30
      go_wp2_with fail
      (with_reducible refine (rpeek_any _ _ _ l _ r0).mono ?_)
      rintro e w1 ⟨rfl, hb1⟩
      rw [HP0.out]
      have h1 := (hb1.block _ hz0).trans h0
      obtain ⟨c0, c1, c2, f0, f1, f2⟩ := laid3 h1
      have s0 := set3_0 (u := .int .i64 0) h1
      have s1 := set3_1 (u := .int .i64 0) s0
      have s2 := set3_2 (u := .slice none 0 0) s1
      obtain ⟨d0, d1, d2, _, _, _⟩ := laid3 s2
      have g1 : ((w1.setCell ⟨w.heap.size, 0, none⟩ (.int .i64 0))).frozen? ⟨w.heap.size, 1, none⟩ = false := free_blk s0
      have g2 : ((w1.setCell ⟨w.heap.size, 0, none⟩ (.int .i64 0)).setCell ⟨w.heap.size, 1, none⟩ (.int .i64 0)).frozen? ⟨w.heap.size, 2, none⟩ = false := free_blk s1
      have hbs := below_set3 (x := .int .i64 0) (y := .int .i64 0) (z := .slice none 0 0) (below_next hb0 hb1) (Nat.le_refl _)
      clear s0 s1 s2 h1 h0
      go_wp2_with fail
      refine bodyPost_ret (v := .tuple #[.agg #[.int .i64 0, .int .i64 0, .slice none 0 0], .int .i64 0, .int .i64 60]) (by simp [results, Tryd.results30, go_sem, d0, d1, d2]) rfl ?_
      rw [HE.out]
      exact ⟨none, 0, rfl, World.ownsRow_nil _ _ _ _, hbs⟩
    · obtain ⟨D, hDD⟩ : ∃ D, (l.take (size - 4)).drop 16 = D := ⟨_, rfl⟩
      obtain ⟨a2, hcut, rr⟩ : ∃ a2, (∀ wx, (Instr.slice 22 (.slice a n c) (some (.int .i64 16)) (some (.int .i64 ((size : Int) - 4))) none).run Tryd.prog wx = .ok (.slice a2 (size - 4 - 16) (c - 16)) wx) ∧ RowAt w a2 (size - 4 - 16) (c - 16) 1 (D.map B) := by
        obtain ⟨a2, h2, h3⟩ := cut_mid slB r 16 (size - 4) (by omega) (by omega)
        rw [show ((size - 4 : Nat) : Int) = (size : Int) - 4 by omega] at h2
        refine ⟨a2, h2, ?_⟩
        rwa [Nat.mul_one, Nat.mul_one, ← List.map_take, ← List.map_drop, hDD] at h3
      obtain ⟨a4, hcut4, r4⟩ : ∃ a4, (∀ wx, (Instr.slice 22 (.slice a n c) (some (.int .i64 ((size : Int) - 4))) (some (.int .i64 (size : Int))) none).run Tryd.prog wx = .ok (.slice a4 4 (c - (size - 4))) wx) ∧ RowAt w a4 4 (c - (size - 4)) 1 (((l.take size).drop (size - 4)).map B) := by
        obtain ⟨a4, h2, h3⟩ := cut_mid slB r (size - 4) size (by omega) (by omega)
        rw [show ((size - 4 : Nat) : Int) = (size : Int) - 4 by omega, show size - (size - 4) = 4 by omega] at h2
        rw [show size - (size - 4) = 4 by omega] at h3
        refine ⟨a4, h2, ?_⟩
        rwa [Nat.mul_one, Nat.mul_one, ← List.map_take, ← List.map_drop] at h3
      have rr0 := rr.below hb0
      have r40 := r4.below hb0
      have hcl := closed_rest (l := l) (size := size) p6 (by omega)
      rw [hDD] at hcl HD
      have hbl : D.length = size - 20 := by rw [← hDD, List.length_drop, List.length_take]; omega
      obtain ⟨z, hz⟩ : ∃ z, closedB ((l.take size).drop 16) = z := ⟨_, rfl⟩
      rw [hz] at hcl HD
      have HC := Lib.hid hcl
      have HB := Lib.hid hbl
      have HD2 : Hid (decF l = if z = false then (Fr.none, 0, 62) else (⟨kind, seq, D⟩, size, 0)) := Lib.hid (by rw [HD.out, if_neg (by simp), if_neg (by omega)])
      have w4 : IntKind.i64.wrap ((size : Int) - 4) = (size : Int) - 4 := IntWalk.i64_in _ (by omega)
      have q0 : (0 : Int) ≤ (size : Int) - 4 := by omega
      have hsl := sumN_lt 0 D
      clear e1 p8 hz hDD hcl hbl HD
      go_enter Tryd.func30, Tryd.ntmps30
      go_wp2_with fail
      (with_reducible refine (rpeek_any _ _ _ l _ r0).mono ?_)
      rintro e w1 ⟨rfl, hb1⟩
      rw [HP0.out]
      have rr1 := rr0.below hb1
      have r41 := r40.below hb1
      clear w4
      go_wp2_with fail
      (with_reducible refine (copy_any _ _ _ D _ (by omega) rr1).mono ?_)
      rintro e w2 ⟨a5, c5, rfl, ho2, hb2⟩
      have r42 := r41.below hb2
      have rD := own_rowAt ho2
      have hbx := below_next hb1 hb2
      clear rr1 r41 rr0 r40
      have w4 : IntKind.i64.wrap ((size : Int) - 4) = (size : Int) - 4 := IntWalk.i64_in _ (by omega)
      go_wp2_with fail
      go_region_with (first
        | (go_at_call 55; refine (rsum_any _ _ _ D _ (by exact rowAt_drew rD)).mono ?_; rintro e w3 ⟨rfl, rfl⟩)
        | (go_at_call 54; refine (rfour_any _ _ hsl).mono ?_; rintro e w3 ⟨a6, c6, rfl, ho5, hb5⟩; have hb6 : Below w2.heap.size w2 w3 := ((Still.one w2 1).below _).trans hb5; have r5 := own_rowAt ho5; have r6 := r42.below hb6)
        | (go_at_call 15; refine (same_any _ _ _ ((l.take size).drop (size - 4)) _ _ _ (four (sumN 0 D)) _ r6 r5).mono ?_; rintro e w7 ⟨rfl, hst7⟩; rw [HC.out]; have hb8 := below_still hb6 hst7; clear r5 r6 hst7 ho5 hb5))
      have ho7 := own_below ho2 hb8
      have hby := below_next hbx hb8
      have hsz2 : w.heap.size ≤ w1.heap.size := by have := hb1.size; omega
      cases z with
      | false =>
        have HE : Hid (decF l = (Fr.none, 0, 62)) := Lib.hid (by rw [HD2.out, if_pos rfl])
        have h1 := (hby.block _ hz0).trans h0
        obtain ⟨c0, c1, c2, f0, f1, f2⟩ := laid3 h1
        have s0 := set3_0 (u := .int .i64 0) h1
        have s1 := set3_1 (u := .int .i64 0) s0
        have s2 := set3_2 (u := .slice none 0 0) s1
        obtain ⟨d0, d1, d2, _, _, _⟩ := laid3 s2
        have g1 : ((w7.setCell ⟨w.heap.size, 0, none⟩ (.int .i64 0))).frozen? ⟨w.heap.size, 1, none⟩ = false := free_blk s0
        have g2 : ((w7.setCell ⟨w.heap.size, 0, none⟩ (.int .i64 0)).setCell ⟨w.heap.size, 1, none⟩ (.int .i64 0)).frozen? ⟨w.heap.size, 2, none⟩ = false := free_blk s1
        have hbs := below_set3 (x := .int .i64 0) (y := .int .i64 0) (z := .slice none 0 0) (below_next hb0 hby) (Nat.le_refl _)
        clear s0 s1 s2 h1 h0
        go_wp2_with fail
        refine bodyPost_ret (v := .tuple #[.agg #[.int .i64 0, .int .i64 0, .slice none 0 0], .int .i64 0, .int .i64 62]) (by simp [results, Tryd.results30, go_sem, d0, d1, d2]) rfl ?_
        rw [HE.out]
        exact ⟨none, 0, rfl, World.ownsRow_nil _ _ _ _, hbs⟩
      | true =>
        have HE : Hid (decF l = (⟨kind, seq, D⟩, size, 0)) := Lib.hid (by rw [HD2.out, if_neg (by simp)])
        have h1 := (hby.block _ hz0).trans h0
        obtain ⟨c0, c1, c2, f0, f1, f2⟩ := laid3 h1
        have s0 := set3_0 (u := .int .i64 (kind : Int)) h1
        have s1 := set3_1 (u := .int .i64 (seq : Int)) s0
        have s2 := set3_2 (u := .slice a5 D.length c5) s1
        obtain ⟨d0, d1, d2, _, _, _⟩ := laid3 s2
        have g1 : ((w7.setCell ⟨w.heap.size, 0, none⟩ (.int .i64 (kind : Int)))).frozen? ⟨w.heap.size, 1, none⟩ = false := free_blk s0
        have g2 : ((w7.setCell ⟨w.heap.size, 0, none⟩ (.int .i64 (kind : Int))).setCell ⟨w.heap.size, 1, none⟩ (.int .i64 (seq : Int))).frozen? ⟨w.heap.size, 2, none⟩ = false := free_blk s1
        have hbs := below_set3 (x := .int .i64 (kind : Int)) (y := .int .i64 (seq : Int)) (z := .slice a5 D.length c5) (below_next hb0 hby) (Nat.le_refl _)
        have hos := own_set3 (x := .int .i64 (kind : Int)) (y := .int .i64 (seq : Int)) (z := .slice a5 D.length c5) (b := w.heap.size) ho7 (fun e => by have := (ho7.lt _ e).1; have := hb1.size; omega)
        clear s0 s1 s2 h1 h0
        go_wp2_with fail
        refine bodyPost_ret (v := .tuple #[.agg #[.int .i64 (kind : Int), .int .i64 (seq : Int), .slice a5 D.length c5], .int .i64 (size : Int), .int .i64 0]) (by simp [results, Tryd.results30, go_sem, d0, d1, d2]) rfl ?_
        rw [HE.out]
        exact ⟨a5, c5, rfl, own_mono hos hsz2, hbs⟩
  · have HE : Hid (decF l = (Fr.none, 0, e)) := Lib.hid (by rw [HD.out, if_pos he])
    have heb : ((e : Int) != 0) = true := by rw [bne_iff_ne]; omega
    clear e1 p5 he
    go_enter Tryd.func30, Tryd.ntmps30
    go_wp2_with fail
    (with_reducible refine (rpeek_any _ _ _ l _ r0).mono ?_)
    rintro e' w1 ⟨rfl, hb1⟩
    rw [HP.out]
    have h1 := (hb1.block _ hz0).trans h0
    obtain ⟨c0, c1, c2, f0, f1, f2⟩ := laid3 h1
    have s0 := set3_0 (u := .int .i64 0) h1
    have s1 := set3_1 (u := .int .i64 0) s0
    have s2 := set3_2 (u := .slice none 0 0) s1
    obtain ⟨d0, d1, d2, _, _, _⟩ := laid3 s2
    have g1 : ((w1.setCell ⟨w.heap.size, 0, none⟩ (.int .i64 0))).frozen? ⟨w.heap.size, 1, none⟩ = false := free_blk s0
    have g2 : ((w1.setCell ⟨w.heap.size, 0, none⟩ (.int .i64 0)).setCell ⟨w.heap.size, 1, none⟩ (.int .i64 0)).frozen? ⟨w.heap.size, 2, none⟩ = false := free_blk s1
    have hbs := below_set3 (x := .int .i64 0) (y := .int .i64 0) (z := .slice none 0 0) (below_next hb0 hb1) (Nat.le_refl _)
    clear s0 s1 s2 h1 h0
    go_wp2_with fail
    refine bodyPost_ret (v := .tuple #[.agg #[.int .i64 0, .int .i64 0, .slice none 0 0], .int .i64 0, .int .i64 (e : Int)]) (by simp [results, Tryd.results30, go_sem, d0, d1, d2]) rfl ?_
    rw [HE.out]
    exact ⟨none, 0, rfl, World.ownsRow_nil _ _ _ _, hbs⟩

theorem fr_ne {f g : Fr} (h : f ≠ g) : f.kind ≠ g.kind ∨ (f.kind = g.kind ∧ f.seq ≠ g.seq) ∨ (f.kind = g.kind ∧ f.seq = g.seq ∧ f.body ≠ g.body) := by
  by_cases h1 : f.kind = g.kind
  · by_cases h2 : f.seq = g.seq
    · right; right; exact ⟨h1, h2, fun h3 => h (by cases f; cases g; simp_all)⟩
    · exact .inr (.inl ⟨h1, h2⟩)
  · exact .inl h1
end Go.Proofs.YtffhejaeliphcaaDoor
