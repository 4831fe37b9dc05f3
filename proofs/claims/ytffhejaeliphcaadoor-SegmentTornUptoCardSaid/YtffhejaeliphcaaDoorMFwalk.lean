/-
  The walks of Size, Peek, Clone and Decode of a frame. Conditions: the argument reads as bytes; the program's table of nibbles holds what its text lays.
-/
import Derived.Test.YtffhejaeliphcaaDoorMClone
import Derived.Test.YtffhejaeliphcaaDoorMFb
import Derived.Test.YtffhejaeliphcaaDoorMBase
import Derived.Test.YtffhejaeliphcaaDoorMVb
namespace Go.Proofs.YtffhejaeliphcaaDoor
open Go.RowKit
set_option linter.unusedVariables false

theorem fsize_in (n : Int) (w : World) (h0 : 0 ≤ n) (h1 : n ≤ 16384) : Calls Tryd.prog 75 #[.int .i64 n] w fun e w' => e = .returned (.int .i64 (20 + n)) ∧ w = w' := by
  have c1 : ¬ n < 0 := by omega
  have c2 : ¬ 16384 < n := by omega
  go_enter Tryd.func75, Tryd.ntmps75
  go_wp2_with fail
  go_ret
  exact ⟨ret_int (by omega), rfl⟩

theorem fsize_out (n : Int) (w : World) (h : n < 0 ∨ 16384 < n) : Calls Tryd.prog 75 #[.int .i64 n] w fun e w' => e = .returned (.int .i64 0) ∧ w = w' := by
  by_cases c1 : n < 0
  · clear h
    go_enter Tryd.func75, Tryd.ntmps75
    go_wp2_with fail
    go_ret
    exact ⟨rfl, rfl⟩
  · have c2 : 16384 < n := by omega
    clear h
    go_enter Tryd.func75, Tryd.ntmps75
    go_wp2_with fail
    go_ret
    exact ⟨rfl, rfl⟩

theorem i64_or_nat (a b : Nat) (ha : a < 9223372036854775808) (hb : b < 9223372036854775808) : bits .or .i64 (a : Int) (b : Int) = ((a ||| b : Nat) : Int) := by
  have h1 : BitVec.ofInt 64 (a : Int) = BitVec.ofNat 64 a := by simp
  have h2 : BitVec.ofInt 64 (b : Int) = BitVec.ofNat 64 b := by simp
  have h3 : a ||| b < 2 ^ 63 := Nat.or_lt_two_pow (by omega) (by omega)
  show IntKind.i64.wrap ((BitVec.ofInt 64 (a : Int) ||| BitVec.ofInt 64 (b : Int)).toNat : Nat) = _
  rw [h1, h2, BitVec.toNat_or, BitVec.toNat_ofNat, BitVec.toNat_ofNat, Nat.mod_eq_of_lt (by omega), Nat.mod_eq_of_lt (by omega)]
  exact IntWalk.i64_in _ (by omega)

theorem len_or (x y : UInt8) : bits .or .i64 (x.toNat : Int) ((y.toNat : Int) * 256) = ((x.toNat + 256 * y.toNat : Nat) : Int) := by
  have hx := x.toNat_lt
  have hy := y.toNat_lt
  rw [show (y.toNat : Int) * 256 = ((256 * y.toNat : Nat) : Int) by omega]
  rw [i64_or_nat _ _ (by omega) (by omega), Nat.or_comm, nat_join 8 _ _ (by omega) (by omega)]
  congr 1; omega

theorem seq_or (s c k : Nat) (hk : k < 8) (hs : s < 256 ^ k) (hc : c < 256) : bits .or .u64 (s : Int) (IntKind.u64.wrap ((c : Int) * 2 ^ (8 * k))) = ((s + c * 256 ^ k : Nat) : Int) := by
  have hp : 0 < 256 ^ k := Nat.pow_pos (by decide)
  have hk7 : 256 ^ k ≤ 256 ^ 7 := Nat.pow_le_pow_right (by decide) (by omega)
  have hm : c * 256 ^ k ≤ 255 * 256 ^ k := Nat.mul_le_mul_right _ (by omega)
  have hlt : c * 256 ^ k < 18446744073709551616 := by
    have : 255 * 256 ^ k ≤ 255 * 256 ^ 7 := Nat.mul_le_mul_left _ hk7
    omega
  rw [show (c : Int) * 2 ^ (8 * k) = ((c * 256 ^ k : Nat) : Int) by rw [Int.natCast_mul, Int.natCast_pow, Int.pow_mul]; rfl]
  rw [IntWalk.u64_in _ (by omega), u64_or_nat _ _ (by omega) hlt]
  rw [Nat.or_comm, nat_join (8 * k) _ _ (by rw [show 2 ^ (8 * k) = 256 ^ k by rw [Nat.pow_mul]]; exact Nat.mul_mod_left _ _) (by rw [Nat.pow_mul]; exact hs), Nat.add_comm]

theorem num_snoc (l : List UInt8) (c : UInt8) : num (l ++ [c]) = num l + c.toNat * 256 ^ l.length := by
  induction l with
  | nil => rw [List.nil_append, num_cons]; show c.toNat + 256 * 0 = 0 + c.toNat * 256 ^ 0; omega
  | cons d r ih => simp only [List.cons_append, num_cons, ih, List.length_cons, Nat.pow_succ]; rw [Nat.mul_add, ← Nat.mul_assoc 256, Nat.mul_comm 256 c.toNat, Nat.mul_assoc, Nat.mul_comm 256 (256 ^ _)]; omega

def peekV (l : List UInt8) : Value := .tuple #[.int .i64 ((peekF l).1 : Int), .int .i64 ((peekF l).2.1 : Int), .int .i64 ((peekF l).2.2.1 : Int), .int .i64 ((peekF l).2.2.2 : Int)]

set_option maxHeartbeats 1600000 in
theorem peek_any (a : Option Addr) (n c : Nat) (l : List UInt8) (w : World) (r : RowAt w a n c 1 (l.map B)) (ht : Tab w) :
    Calls Tryd.prog 61 #[.slice a n c] w fun e w' => e = .returned (peekV l) ∧ Below w.heap.size w w' := by
  have e1 : l.length = n := by simpa using r.len
  have m1 := r.2.2.1
  have m2 := r.2.1
  unfold maxLen at m1
  have H1 := Lib.hid e1
  by_cases h16 : n < 16
  · have HV : Hid (peekF l = (0, 0, 0, 60)) := Lib.hid (by unfold peekF; rw [if_pos (by omega)])
    clear e1
    go_enter Tryd.func61, Tryd.ntmps61
    go_wp2_with fail
    exact bodyPost_ret (v := peekV l) (by unfold peekV; rw [HV.out]; simp [results, Tryd.results61, go_sem]) rfl ⟨rfl, Below.refl _ _⟩
  · obtain ⟨b0, o0, x0, rfl, hx0, hc0⟩ := r.byte 0 (by omega)
    simp only [Nat.add_zero] at hc0
    have hg0 : l.getD 0 0 = x0 := by rw [List.getD_eq_getElem?_getD, hx0]; rfl
    by_cases h165 : x0 = 165
    · subst h165
      have hc0' : w.cell? ⟨b0, o0, none⟩ = some (.int .u8 165) := hc0
      clear hc0
      have r16 := rowB_upto r (show 16 ≤ n by omega)
      obtain ⟨z, hz⟩ : ∃ z, closedB (l.take 16) = z := ⟨_, rfl⟩
      cases z with
      | false =>
        have HV : Hid (peekF l = (0, 0, 0, 62)) := Lib.hid (by unfold peekF; rw [if_neg (by omega), hg0, if_neg (by simp), hz, if_pos rfl])
        have HZ := Lib.hid hz
        clear e1 hz hx0 hg0
        go_enter Tryd.func61, Tryd.ntmps61
        go_wp2_with fail
        (with_reducible refine (closedB_any _ _ _ (l.take 16) _ r16 ht).mono ?_)
        rintro e w1 ⟨rfl, hb1⟩
        rw [HZ.out]
        go_wp2_with fail
        exact bodyPost_ret (v := peekV l) (by unfold peekV; rw [HV.out]; simp [results, Tryd.results61, go_sem]) rfl ⟨rfl, hb1⟩
      | true =>
        have HZ := Lib.hid hz
        have HV : Hid (peekF l = if kindOf l = 0 ∨ 7 < kindOf l ∨ 16384 < lenOf l ∨ 1099511627776 < seqOf l then (0, 0, 0, 63) else (kindOf l, seqOf l, 20 + lenOf l, 0)) := Lib.hid (by unfold peekF; rw [if_neg (by omega), hg0, if_neg (by simp), hz, if_neg (by simp)])
        clear e1 hz hx0 hg0
        go_enter Tryd.func61, Tryd.ntmps61
        go_wp2_with fail
        (with_reducible refine (closedB_any _ _ _ (l.take 16) _ r16 ht).mono ?_)
        rintro e w1 ⟨rfl, hb1⟩
        rw [HZ.out]
        have r1 := r.below hb1
        obtain ⟨b2, o2, x2, hba, hx2, hc2⟩ := r1.byte 2 (by omega)
        cases hba
        obtain ⟨b3, o3, x3, hba, hx3, hc3⟩ := r1.byte 3 (by omega)
        cases hba
        obtain ⟨b4, o4, x1, hba, hx1, hc1⟩ := r1.byte 1 (by omega)
        cases hba
        have i2 : (2 : Int) < (n : Int) := by omega
        have i3 : (3 : Int) < (n : Int) := by omega
        have HK : Hid (kindOf l = x1.toNat) := Lib.hid (by unfold kindOf; rw [List.getD_eq_getElem?_getD, hx1]; rfl)
        have HN : Hid (lenOf l = x2.toNat + 256 * x3.toNat) := Lib.hid (by unfold lenOf; rw [List.getD_eq_getElem?_getD, List.getD_eq_getElem?_getD, hx2, hx3]; rfl)
        have hk1 := x1.toNat_lt
        have hx2l := x2.toNat_lt
        have hx3l := x3.toNat_lt
        have hnb : x2.toNat + 256 * x3.toNat < 65536 := by have := x2.toNat_lt; have := x3.toNat_lt; omega
        clear hx2 hx3 hx1
        go_wp2_with fail
        go_quiet (fail)
        rw [len_or]
        obtain ⟨N, hN⟩ : ∃ N, x2.toNat + 256 * x3.toNat = N := ⟨_, rfl⟩
        rw [hN] at HN hnb ⊢
        clear hN
        go_wp2_with fail
        go_loopw [7, 34] (fun sv iv wr => ∃ k s : Nat, iv = .int .i64 (k : Int) ∧ sv = .int .u64 (s : Int) ∧ k ≤ 8 ∧ Hid (s = num ((l.drop 4).take k)) ∧ Below w1.heap.size w1 wr) (fun _ iv _ => 8 - (intOf iv).toNat)
        case atStart => exact ⟨0, 0, rfl, rfl, Nat.zero_le _, Lib.hid rfl, (Still.one _ _).below _⟩
        case round =>
          obtain ⟨k, s, rfl, rfl, hk, HS, hbr⟩ := hrel
          have rr := r1.below hbr
          by_cases hlt : k < 8
          · obtain ⟨b5, o5, x, hba, hx, hcx⟩ := rr.byte (4 + k) (by omega)
            cases hba
            have hxl := x.toNat_lt
            have hl4 : ((l.drop 4).take k).length = k := by rw [List.length_take, List.length_drop]; have := H1.out; omega
            have hsb : s < 256 ^ k := by have := num_lt ((l.drop 4).take k); rw [hl4, ← HS.out] at this; rw [Nat.pow_mul] at this; exact this
            have HO := Lib.hid (seq_or s x.toNat k hlt hsb hxl)
            have HS2 : Hid (s + x.toNat * 256 ^ k = num ((l.drop 4).take (k + 1))) := Lib.hid (by
              rw [List.take_add_one, List.getElem?_drop, hx]
              show _ = num (_ ++ [x])
              rw [num_snoc, hl4, ← HS.out])
            have i4 : (4 : Int) + (k : Int) < (n : Int) := by omega
            have i5 : ((4 : Int) + (k : Int)).toNat = 4 + k := by omega
            clear hx hsb hl4
            go_wp2_with fail
            go_roundw
            case rel => exact ⟨k + 1, _, by go_num, congrArg _ HO.out, by omega, HS2, hbr⟩
            case measure => simp [intOf]; omega
          · have hk8 : k = 8 := by omega
            have HQ : Hid (seqOf l = s) := Lib.hid (by rw [HS.out, hk8]; rfl)
            have hlk : ¬ (k : Int) < 8 := by omega
            have hs0 : 0 ≤ (s : Int) := by omega
            have hsi : ¬ 1099511627776 < (s : Int) ↔ ¬ 1099511627776 < s := by omega
            obtain ⟨b6, o6, y1, hba, hy1, hcy⟩ := rr.byte 1 (by omega)
            cases hba
            have hyx : y1.toNat = x1.toNat := by
              have := HK.out; unfold kindOf at this; rw [List.getD_eq_getElem?_getD, hy1] at this; exact this
            rw [hyx] at hcy
            obtain ⟨S, hS⟩ : ∃ S : Int, (s : Int) = S := ⟨_, rfl⟩
            rw [hS] at hs0 hsi ⊢
            have HSS := Lib.hid hS
            have HSI := Lib.hid hsi
            have i1 : (1 : Int) < (n : Int) := by omega
            obtain ⟨kd, hkd⟩ : ∃ kd, x1.toNat = kd := ⟨_, rfl⟩
            rw [hkd] at hcy HK hk1
            have hb7 := below_next hb1 hbr
            clear hk8 hsi hS hyx hy1 hkd hc1 hc2 hc3 rr r1 r
            by_cases c1 : kd = 0
            · have b1 : ((kd : Int) == 0) = true := by rw [beq_iff_eq]; omega
              have HE : Hid (peekF l = (0, 0, 0, 63)) := Lib.hid (by rw [HV.out, HK.out, if_pos (by omega)])
              clear c1
              go_wp2_with fail
              exact bodyPost_ret (v := peekV l) (by unfold peekV; rw [HE.out]; simp [results, Tryd.results61, go_sem]) rfl ⟨rfl, hb7⟩
            · have b1 : ((kd : Int) == 0) = false := by rw [beq_eq_false_iff_ne]; omega
              by_cases c2 : 7 < kd
              · have b2 : (7 : Int) < (kd : Int) := by omega
                have HE : Hid (peekF l = (0, 0, 0, 63)) := Lib.hid (by rw [HV.out, HK.out, if_pos (by omega)])
                go_wp2_with fail
                exact bodyPost_ret (v := peekV l) (by unfold peekV; rw [HE.out]; simp [results, Tryd.results61, go_sem]) rfl ⟨rfl, hb7⟩
              · have b2 : ¬ (7 : Int) < (kd : Int) := by omega
                by_cases c3 : 16384 < N
                · have b3 : (16384 : Int) < (N : Int) := by omega
                  have HE : Hid (peekF l = (0, 0, 0, 63)) := Lib.hid (by rw [HV.out, HK.out, HN.out, if_pos (by omega)])
                  go_wp2_with fail
                  exact bodyPost_ret (v := peekV l) (by unfold peekV; rw [HE.out]; simp [results, Tryd.results61, go_sem]) rfl ⟨rfl, hb7⟩
                · have b3 : ¬ (16384 : Int) < (N : Int) := by omega
                  by_cases c4 : 1099511627776 < S
                  · have HE : Hid (peekF l = (0, 0, 0, 63)) := Lib.hid (by rw [HV.out, HK.out, HN.out, HQ.out, if_pos (by have := HSI.out; omega)])
                    go_wp2_with fail
                    exact bodyPost_ret (v := peekV l) (by unfold peekV; rw [HE.out]; simp [results, Tryd.results61, go_sem]) rfl ⟨rfl, hb7⟩
                  · have HE : Hid (peekF l = (kd, s, 20 + N, 0)) := Lib.hid (by rw [HV.out, HK.out, HN.out, HQ.out, if_neg (by have := HSI.out; omega)])
                    go_wp2_with fail
                    (with_reducible refine (fsize_in (N : Int) _ (by omega) (by omega)).mono ?_)
                    rintro e w8 ⟨rfl, rfl⟩
                    go_wp2_with fail
                    exact bodyPost_ret (v := peekV l) (by unfold peekV; rw [HE.out]; simp [results, Tryd.results61, go_sem, HSS.out]) rfl ⟨rfl, hb7⟩
    · have HV : Hid (peekF l = (0, 0, 0, 61)) := Lib.hid (by unfold peekF; rw [if_neg (by omega), hg0, if_pos h165])
      have hne : ((x0.toNat : Int) != 165) = true := by
        rw [bne_iff_ne]; intro h; apply h165; apply UInt8.toNat_inj.1; show x0.toNat = 165; omega
      clear e1 hx0 hg0 h165
      go_enter Tryd.func61, Tryd.ntmps61
      go_wp2_with fail
      exact bodyPost_ret (v := peekV l) (by unfold peekV; rw [HV.out]; simp [results, Tryd.results61, go_sem]) rfl ⟨rfl, Below.refl _ _⟩
end Go.Proofs.YtffhejaeliphcaaDoor
