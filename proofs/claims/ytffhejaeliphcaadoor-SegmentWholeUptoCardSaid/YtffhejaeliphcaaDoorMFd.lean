/-
  The walks of Size, Peek, Clone and Decode of a frame. Conditions: the argument reads as bytes; the program's table of nibbles holds what its text lays.
  The walk of Decode of a frame. Conditions: the argument reads as bytes; the program's table of nibbles holds what its text lays.
-/
import Derived.Test.YtffhejaeliphcaaDoorMClone
import Derived.Test.YtffhejaeliphcaaDoorMFb
import Derived.Test.YtffhejaeliphcaaDoorMBase
import Derived.Test.YtffhejaeliphcaaDoorMVb
namespace Go.Proofs.YtffhejaeliphcaaDoor
open Go.RowKit
set_option linter.unusedVariables false

theorem fsize_in (n : Int) (w : World) (h0 : 0 ≤ n) (h1 : n ≤ 16384) : Calls Tryd.prog 75 #[.int .i64 n] w fun e w' => e = .returned (.int .i64 (20 + n)) ∧ w = w' := by
  have c1 : ¬ n < 0 := by omega
  have c2 : ¬ 16384 < n := by omega
  go_enter Tryd.func75, Tryd.ntmps75
  go_wp2_with fail
  go_ret
  exact ⟨ret_int (by omega), rfl⟩

theorem fsize_out (n : Int) (w : World) (h : n < 0 ∨ 16384 < n) : Calls Tryd.prog 75 #[.int .i64 n] w fun e w' => e = .returned (.int .i64 0) ∧ w = w' := by
  by_cases c1 : n < 0
  · clear h
    go_enter Tryd.func75, Tryd.ntmps75
    go_wp2_with fail
    go_ret
    exact ⟨rfl, rfl⟩
  · have c2 : 16384 < n := by omega
    clear h
    go_enter Tryd.func75, Tryd.ntmps75
    go_wp2_with fail
    go_ret
    exact ⟨rfl, rfl⟩

theorem i64_or_nat (a b : Nat) (ha : a < 9223372036854775808) (hb : b < 9223372036854775808) : bits .or .i64 (a : Int) (b : Int) = ((a ||| b : Nat) : Int) := by
  have h1 : BitVec.ofInt 64 (a : Int) = BitVec.ofNat 64 a := by simp
  have h2 : BitVec.ofInt 64 (b : Int) = BitVec.ofNat 64 b := by simp
  have h3 : a ||| b < 2 ^ 63 := Nat.or_lt_two_pow (by omega) (by omega)
  show IntKind.i64.wrap ((BitVec.ofInt 64 (a : Int) ||| BitVec.ofInt 64 (b : Int)).toNat : Nat) = _
  rw [h1, h2, BitVec.toNat_or, BitVec.toNat_ofNat, BitVec.toNat_ofNat, Nat.mod_eq_of_lt (by omega), Nat.mod_eq_of_lt (by omega)]
  exact IntWalk.i64_in _ (by omega)

theorem len_or (x y : UInt8) : bits .or .i64 (x.toNat : Int) ((y.toNat : Int) * 256) = ((x.toNat + 256 * y.toNat : Nat) : Int) := by
  have hx := x.toNat_lt
  have hy := y.toNat_lt
  rw [show (y.toNat : Int) * 256 = ((256 * y.toNat : Nat) : Int) by omega]
  rw [i64_or_nat _ _ (by omega) (by omega), Nat.or_comm, nat_join 8 _ _ (by omega) (by omega)]
  congr 1; omega

theorem seq_or (s c k : Nat) (hk : k < 8) (hs : s < 256 ^ k) (hc : c < 256) : bits .or .u64 (s : Int) (IntKind.u64.wrap ((c : Int) * 2 ^ (8 * k))) = ((s + c * 256 ^ k : Nat) : Int) := by
  have hp : 0 < 256 ^ k := Nat.pow_pos (by decide)
  have hk7 : 256 ^ k ≤ 256 ^ 7 := Nat.pow_le_pow_right (by decide) (by omega)
  have hm : c * 256 ^ k ≤ 255 * 256 ^ k := Nat.mul_le_mul_right _ (by omega)
  have hlt : c * 256 ^ k < 18446744073709551616 := by
    have : 255 * 256 ^ k ≤ 255 * 256 ^ 7 := Nat.mul_le_mul_left _ hk7
    omega
  rw [show (c : Int) * 2 ^ (8 * k) = ((c * 256 ^ k : Nat) : Int) by rw [Int.natCast_mul, Int.natCast_pow, Int.pow_mul]; rfl]
  rw [IntWalk.u64_in _ (by omega), u64_or_nat _ _ (by omega) hlt]
  rw [Nat.or_comm, nat_join (8 * k) _ _ (by rw [show 2 ^ (8 * k) = 256 ^ k by rw [Nat.pow_mul]]; exact Nat.mul_mod_left _ _) (by rw [Nat.pow_mul]; exact hs), Nat.add_comm]

theorem num_snoc (l : List UInt8) (c : UInt8) : num (l ++ [c]) = num l + c.toNat * 256 ^ l.length := by
  induction l with
  | nil => rw [List.nil_append, num_cons]; show c.toNat + 256 * 0 = 0 + c.toNat * 256 ^ 0; omega
  | cons d r ih => simp only [List.cons_append, num_cons, ih, List.length_cons, Nat.pow_succ]; rw [Nat.mul_add, ← Nat.mul_assoc 256, Nat.mul_comm 256 c.toNat, Nat.mul_assoc, Nat.mul_comm 256 (256 ^ _)]; omega

def peekV (l : List UInt8) : Value := .tuple #[.int .i64 ((peekF l).1 : Int), .int .i64 ((peekF l).2.1 : Int), .int .i64 ((peekF l).2.2.1 : Int), .int .i64 ((peekF l).2.2.2 : Int)]

set_option maxHeartbeats 1600000 in
theorem peek_any (a : Option Addr) (n c : Nat) (l : List UInt8) (w : World) (r : RowAt w a n c 1 (l.map B)) (ht : Tab w) :
    Calls Tryd.prog 61 #[.slice a n c] w fun e w' => e = .returned (peekV l) ∧ Below w.heap.size w w' := by
  have e1 : l.length = n := by simpa using r.len
  have m1 := r.2.2.1
  have m2 := r.2.1
  unfold maxLen at m1
  have H1 := Lib.hid e1
  by_cases h16 : n < 16
  · have HV : Hid (peekF l = (0, 0, 0, 60)) := Lib.hid (by unfold peekF; rw [if_pos (by omega)])
    clear e1
    go_enter Tryd.func61, Tryd.ntmps61
    go_wp2_with fail
    exact bodyPost_ret (v := peekV l) (by unfold peekV; rw [HV.out]; simp [results, Tryd.results61, go_sem]) rfl ⟨rfl, Below.refl _ _⟩
  · obtain ⟨b0, o0, x0, rfl, hx0, hc0⟩ := r.byte 0 (by omega)
    simp only [Nat.add_zero] at hc0
    have hg0 : l.getD 0 0 = x0 := by rw [List.getD_eq_getElem?_getD, hx0]; rfl
    by_cases h165 : x0 = 165
    · subst h165
      have hc0' : w.cell? ⟨b0, o0, none⟩ = some (.int .u8 165) := hc0
      clear hc0
      have r16 := rowB_upto r (show 16 ≤ n by omega)
      obtain ⟨z, hz⟩ : ∃ z, closedB (l.take 16) = z := ⟨_, rfl⟩
      cases z with
      | false =>
        have HV : Hid (peekF l = (0, 0, 0, 62)) := Lib.hid (by unfold peekF; rw [if_neg (by omega), hg0, if_neg (by simp), hz, if_pos rfl])
        have HZ := Lib.hid hz
        clear e1 hz hx0 hg0
        go_enter Tryd.func61, Tryd.ntmps61
        go_wp2_with fail
        (with_reducible refine (closedB_any _ _ _ (l.take 16) _ r16 ht).mono ?_)
        rintro e w1 ⟨rfl, hb1⟩
        rw [HZ.out]
        go_wp2_with fail
        exact bodyPost_ret (v := peekV l) (by unfold peekV; rw [HV.out]; simp [results, Tryd.results61, go_sem]) rfl ⟨rfl, hb1⟩
      | true =>
        have HZ := Lib.hid hz
        have HV : Hid (peekF l = if kindOf l = 0 ∨ 7 < kindOf l ∨ 16384 < lenOf l ∨ 1099511627776 < seqOf l then (0, 0, 0, 63) else (kindOf l, seqOf l, 20 + lenOf l, 0)) := Lib.hid (by unfold peekF; rw [if_neg (by omega), hg0, if_neg (by simp), hz, if_neg (by simp)])
        clear e1 hz hx0 hg0
        go_enter Tryd.func61, Tryd.ntmps61
        go_wp2_with fail
        (with_reducible refine (closedB_any _ _ _ (l.take 16) _ r16 ht).mono ?_)
        rintro e w1 ⟨rfl, hb1⟩
        rw [HZ.out]
        have r1 := r.below hb1
        obtain ⟨b2, o2, x2, hba, hx2, hc2⟩ := r1.byte 2 (by omega)
        cases hba
        obtain ⟨b3, o3, x3, hba, hx3, hc3⟩ := r1.byte 3 (by omega)
        cases hba
        obtain ⟨b4, o4, x1, hba, hx1, hc1⟩ := r1.byte 1 (by omega)
        cases hba
        have i2 : (2 : Int) < (n : Int) := by omega
        have i3 : (3 : Int) < (n : Int) := by omega
        have HK : Hid (kindOf l = x1.toNat) := Lib.hid (by unfold kindOf; rw [List.getD_eq_getElem?_getD, hx1]; rfl)
        have HN : Hid (lenOf l = x2.toNat + 256 * x3.toNat) := Lib.hid (by unfold lenOf; rw [List.getD_eq_getElem?_getD, List.getD_eq_getElem?_getD, hx2, hx3]; rfl)
        have hk1 := x1.toNat_lt
        have hx2l := x2.toNat_lt
        have hx3l := x3.toNat_lt
        have hnb : x2.toNat + 256 * x3.toNat < 65536 := by have := x2.toNat_lt; have := x3.toNat_lt; omega
        clear hx2 hx3 hx1
        go_wp2_with fail
        go_quiet (fail)
        rw [len_or]
        obtain ⟨N, hN⟩ : ∃ N, x2.toNat + 256 * x3.toNat = N := ⟨_, rfl⟩
        rw [hN] at HN hnb ⊢
        clear hN
        go_wp2_with fail
        go_loopw [7, 34] (fun sv iv wr => ∃ k s : Nat, iv = .int .i64 (k : Int) ∧ sv = .int .u64 (s : Int) ∧ k ≤ 8 ∧ Hid (s = num ((l.drop 4).take k)) ∧ Below w1.heap.size w1 wr) (fun _ iv _ => 8 - (intOf iv).toNat)
        case atStart => exact ⟨0, 0, rfl, rfl, Nat.zero_le _, Lib.hid rfl, (Still.one _ _).below _⟩
        case round =>
          obtain ⟨k, s, rfl, rfl, hk, HS, hbr⟩ := hrel
          have rr := r1.below hbr
          by_cases hlt : k < 8
          · obtain ⟨b5, o5, x, hba, hx, hcx⟩ := rr.byte (4 + k) (by omega)
            cases hba
            have hxl := x.toNat_lt
            have hl4 : ((l.drop 4).take k).length = k := by rw [List.length_take, List.length_drop]; have := H1.out; omega
            have hsb : s < 256 ^ k := by have := num_lt ((l.drop 4).take k); rw [hl4, ← HS.out] at this; rw [Nat.pow_mul] at this; exact this
            have HO := Lib.hid (seq_or s x.toNat k hlt hsb hxl)
            have HS2 : Hid (s + x.toNat * 256 ^ k = num ((l.drop 4).take (k + 1))) := Lib.hid (by
              rw [List.take_add_one, List.getElem?_drop, hx]
              show _ = num (_ ++ [x])
              rw [num_snoc, hl4, ← HS.out])
            have i4 : (4 : Int) + (k : Int) < (n : Int) := by omega
            have i5 : ((4 : Int) + (k : Int)).toNat = 4 + k := by omega
            clear hx hsb hl4
            go_wp2_with fail
            go_roundw
            case rel => exact ⟨k + 1, _, by go_num, congrArg _ HO.out, by omega, HS2, hbr⟩
            case measure => simp [intOf]; omega
          · have hk8 : k = 8 := by omega
            have HQ : Hid (seqOf l = s) := Lib.hid (by rw [HS.out, hk8]; rfl)
            have hlk : ¬ (k : Int) < 8 := by omega
            have hs0 : 0 ≤ (s : Int) := by omega
            have hsi : ¬ 1099511627776 < (s : Int) ↔ ¬ 1099511627776 < s := by omega
            obtain ⟨b6, o6, y1, hba, hy1, hcy⟩ := rr.byte 1 (by omega)
            cases hba
            have hyx : y1.toNat = x1.toNat := by
              have := HK.out; unfold kindOf at this; rw [List.getD_eq_getElem?_getD, hy1] at this; exact this
            rw [hyx] at hcy
            obtain ⟨S, hS⟩ : ∃ S : Int, (s : Int) = S := ⟨_, rfl⟩
            rw [hS] at hs0 hsi ⊢
            have HSS := Lib.hid hS
            have HSI := Lib.hid hsi
            have i1 : (1 : Int) < (n : Int) := by omega
            obtain ⟨kd, hkd⟩ : ∃ kd, x1.toNat = kd := ⟨_, rfl⟩
            rw [hkd] at hcy HK hk1
            have hb7 := below_next hb1 hbr
            clear hk8 hsi hS hyx hy1 hkd hc1 hc2 hc3 rr r1 r
            by_cases c1 : kd = 0
            · have b1 : ((kd : Int) == 0) = true := by rw [beq_iff_eq]; omega
              have HE : Hid (peekF l = (0, 0, 0, 63)) := Lib.hid (by rw [HV.out, HK.out, if_pos (by omega)])
              clear c1
              go_wp2_with fail
              exact bodyPost_ret (v := peekV l) (by unfold peekV; rw [HE.out]; simp [results, Tryd.results61, go_sem]) rfl ⟨rfl, hb7⟩
            · have b1 : ((kd : Int) == 0) = false := by rw [beq_eq_false_iff_ne]; omega
              by_cases c2 : 7 < kd
              · have b2 : (7 : Int) < (kd : Int) := by omega
                have HE : Hid (peekF l = (0, 0, 0, 63)) := Lib.hid (by rw [HV.out, HK.out, if_pos (by omega)])
                go_wp2_with fail
                exact bodyPost_ret (v := peekV l) (by unfold peekV; rw [HE.out]; simp [results, Tryd.results61, go_sem]) rfl ⟨rfl, hb7⟩
              · have b2 : ¬ (7 : Int) < (kd : Int) := by omega
                by_cases c3 : 16384 < N
                · have b3 : (16384 : Int) < (N : Int) := by omega
                  have HE : Hid (peekF l = (0, 0, 0, 63)) := Lib.hid (by rw [HV.out, HK.out, HN.out, if_pos (by omega)])
                  go_wp2_with fail
                  exact bodyPost_ret (v := peekV l) (by unfold peekV; rw [HE.out]; simp [results, Tryd.results61, go_sem]) rfl ⟨rfl, hb7⟩
                · have b3 : ¬ (16384 : Int) < (N : Int) := by omega
                  by_cases c4 : 1099511627776 < S
                  · have HE : Hid (peekF l = (0, 0, 0, 63)) := Lib.hid (by rw [HV.out, HK.out, HN.out, HQ.out, if_pos (by have := HSI.out; omega)])
                    go_wp2_with fail
                    exact bodyPost_ret (v := peekV l) (by unfold peekV; rw [HE.out]; simp [results, Tryd.results61, go_sem]) rfl ⟨rfl, hb7⟩
                  · have HE : Hid (peekF l = (kd, s, 20 + N, 0)) := Lib.hid (by rw [HV.out, HK.out, HN.out, HQ.out, if_neg (by have := HSI.out; omega)])
                    go_wp2_with fail
                    (with_reducible refine (fsize_in (N : Int) _ (by omega) (by omega)).mono ?_)
                    rintro e w8 ⟨rfl, rfl⟩
                    go_wp2_with fail
                    exact bodyPost_ret (v := peekV l) (by unfold peekV; rw [HE.out]; simp [results, Tryd.results61, go_sem, HSS.out]) rfl ⟨rfl, hb7⟩
    · have HV : Hid (peekF l = (0, 0, 0, 61)) := Lib.hid (by unfold peekF; rw [if_neg (by omega), hg0, if_pos h165])
      have hne : ((x0.toNat : Int) != 165) = true := by
        rw [bne_iff_ne]; intro h; apply h165; apply UInt8.toNat_inj.1; show x0.toNat = 165; omega
      clear e1 hx0 hg0 h165
      go_enter Tryd.func61, Tryd.ntmps61
      go_wp2_with fail
      exact bodyPost_ret (v := peekV l) (by unfold peekV; rw [HV.out]; simp [results, Tryd.results61, go_sem]) rfl ⟨rfl, Below.refl _ _⟩
end Go.Proofs.YtffhejaeliphcaaDoor

namespace Go.Proofs.YtffhejaeliphcaaDoor
open Go.RowKit
set_option linter.unusedVariables false

/-- The word of a contract that gives a frame whose body is in new memory, a size, an error's number. -/
def GivesF (eB : TypeId) (w : World) (x : Fr × Nat × Nat) (e : Ending) (w' : World) : Prop :=
  ∃ a cap, e = .returned (.tuple #[.agg #[.int .i64 (x.1.kind : Int), .int .i64 (x.1.seq : Int), .slice a x.1.body.length cap], .int .i64 (x.2.1 : Int), .int .i64 (x.2.2 : Int)]) ∧
    w'.ownsRow w.heap.size eB 1 (.slice a x.1.body.length cap) x.1.body.length (x.1.body.map B) ∧ Below w.heap.size w w'

set_option maxHeartbeats 1600000 in
theorem fdec_any (a : Option Addr) (n c : Nat) (l : List UInt8) (w : World) (r : RowAt w a n c 1 (l.map B)) (ht : Tab w) :
    Calls Tryd.prog 34 #[.slice a n c] w (GivesF 5 w (decF l)) := by
  have e1 : l.length = n := by simpa using r.len
  have m1 := r.2.2.1
  have m2 := r.2.1
  unfold maxLen at m1
  have hb0 := below_made w (.cells #[.int .i64 0, .int .i64 0, .slice none 0 0] 53)
  have h0 := heap_alloc_new w (.cells #[.int .i64 0, .int .i64 0, .slice none 0 0] 53)
  have hz0 : w.heap.size < (w.alloc (.cells #[.int .i64 0, .int .i64 0, .slice none 0 0] 53)).heap.size := by simp
  have r0 := r.below hb0
  have ht0 := ht.below hb0
  obtain ⟨p1, p2, p3, p4, p5⟩ := peekF_bd l
  obtain ⟨y, hy⟩ : ∃ y, peekF l = y := ⟨_, rfl⟩
  obtain ⟨kind, seq, size, e⟩ := y
  rw [hy] at p1 p2 p3 p4 p5
  simp only at p1 p2 p3 p4 p5
  have HP : Hid (peekV l = .tuple #[.int .i64 (kind : Int), .int .i64 (seq : Int), .int .i64 (size : Int), .int .i64 (e : Int)]) := Lib.hid (by unfold peekV; rw [hy])
  have HD : Hid (decF l = if e ≠ 0 then (Fr.none, 0, e) else if l.length < size then (Fr.none, 0, 60) else if closedB ((l.take size).drop 16) = false then (Fr.none, 0, 62) else (⟨kind, seq, (l.take (size - 4)).drop 16⟩, size, 0)) := Lib.hid (by unfold decF; rw [hy])
  have H1 := Lib.hid e1
  clear hy
  by_cases he : e = 0
  · subst he
    obtain ⟨p6, p7, p8, p9⟩ := p5 rfl
    have HP0 : Hid (peekV l = .tuple #[.int .i64 (kind : Int), .int .i64 (seq : Int), .int .i64 (size : Int), .int .i64 0]) := Lib.hid HP.out
    clear p5 HP
    by_cases hs : n < size
    · have HE : Hid (decF l = (Fr.none, 0, 60)) := Lib.hid (by rw [HD.out, if_neg (by simp), if_pos (by omega)])
      clear e1 p8
      go_enter Tryd.func34, Tryd.ntmps34
      go_wp2_with fail
      (with_reducible refine (peek_any _ _ _ l _ r0 ht0).mono ?_)
      rintro e w1 ⟨rfl, hb1⟩
      rw [HP0.out]
      have h1 := (hb1.block _ hz0).trans h0
      have L1 := laid3 h1
      obtain ⟨c0, c1, c2, f0, f1, f2⟩ := L1
      have s0 := set3_0 (u := .int .i64 0) h1
      have s1 := set3_1 (u := .int .i64 0) s0
      have s2 := set3_2 (u := .slice none 0 0) s1
      obtain ⟨d0, d1, d2, _, _, _⟩ := laid3 s2
      have g1 : ((w1.setCell ⟨w.heap.size, 0, none⟩ (.int .i64 0))).frozen? ⟨w.heap.size, 1, none⟩ = false := free_blk s0
      have g2 : ((w1.setCell ⟨w.heap.size, 0, none⟩ (.int .i64 0)).setCell ⟨w.heap.size, 1, none⟩ (.int .i64 0)).frozen? ⟨w.heap.size, 2, none⟩ = false := free_blk s1
      have hbs := below_set3 (x := .int .i64 0) (y := .int .i64 0) (z := .slice none 0 0) (below_next hb0 hb1) (Nat.le_refl _)
      clear s0 s1 s2 h1 h0
      go_wp2_with fail
      refine bodyPost_ret (v := .tuple #[.agg #[.int .i64 0, .int .i64 0, .slice none 0 0], .int .i64 0, .int .i64 60]) (by simp [results, Tryd.results34, go_sem, d0, d1, d2]) rfl ?_
      rw [HE.out]
      exact ⟨none, 0, rfl, World.ownsRow_nil _ _ _ _, hbs⟩
    · obtain ⟨a2, hcut, rr⟩ : ∃ a2, (∀ wx, (Instr.slice 22 (.slice a n c) (some (.int .i64 16)) (some (.int .i64 (size : Int))) (some (.int .i64 (size : Int)))).run Tryd.prog wx = .ok (.slice a2 (size - 16) (size - 16)) wx) ∧ RowAt w a2 (size - 16) (size - 16) 1 (((l.take size).drop 16).map B) := by
        refine ⟨_, fun wx => run_cut3 slB wx 16 size size (by omega) (Nat.le_refl _) (by omega), ?_⟩
        have h1 := (rowB_upto r (show size ≤ n by omega))
        have h2 : RowAt w a size size 1 ((l.take size).map B) := ⟨h1.1, Nat.le_refl _, by unfold maxLen; omega, h1.2.2.2⟩
        have h3 := h2.from 16 (by omega)
        rwa [Nat.mul_one, ← List.map_drop] at h3
      have rr0 := rr.below hb0
      have hzi : ((size : Int) - 16).toNat = size - 16 := by omega
      obtain ⟨z, hz⟩ : ∃ z, closedB ((l.take size).drop 16) = z := ⟨_, rfl⟩
      have HZ := Lib.hid hz
      cases z with
      | false =>
        have HE : Hid (decF l = (Fr.none, 0, 62)) := Lib.hid (by rw [HD.out, if_neg (by simp), if_neg (by omega), hz, if_pos rfl])
        clear e1 p8 hz
        go_enter Tryd.func34, Tryd.ntmps34
        go_wp2_with fail
        (with_reducible refine (peek_any _ _ _ l _ r0 ht0).mono ?_)
        rintro e w1 ⟨rfl, hb1⟩
        rw [HP0.out]
        have rr1 := rr0.below hb1
        have ht1 := ht0.below hb1
        go_wp2_with fail
        (with_reducible refine (closedB_any _ _ _ ((l.take size).drop 16) _ rr1 ht1).mono ?_)
        rintro e w2 ⟨rfl, hb2⟩
        rw [HZ.out]
        have hbx := below_next hb1 hb2
        have h1 := (hbx.block _ hz0).trans h0
        obtain ⟨c0, c1, c2, f0, f1, f2⟩ := laid3 h1
        have s0 := set3_0 (u := .int .i64 0) h1
        have s1 := set3_1 (u := .int .i64 0) s0
        have s2 := set3_2 (u := .slice none 0 0) s1
        obtain ⟨d0, d1, d2, _, _, _⟩ := laid3 s2
        have g1 : ((w2.setCell ⟨w.heap.size, 0, none⟩ (.int .i64 0))).frozen? ⟨w.heap.size, 1, none⟩ = false := free_blk s0
        have g2 : ((w2.setCell ⟨w.heap.size, 0, none⟩ (.int .i64 0)).setCell ⟨w.heap.size, 1, none⟩ (.int .i64 0)).frozen? ⟨w.heap.size, 2, none⟩ = false := free_blk s1
        have hbs := below_set3 (x := .int .i64 0) (y := .int .i64 0) (z := .slice none 0 0) (below_next hb0 hbx) (Nat.le_refl _)
        clear s0 s1 s2 h1 h0
        go_wp2_with fail
        refine bodyPost_ret (v := .tuple #[.agg #[.int .i64 0, .int .i64 0, .slice none 0 0], .int .i64 0, .int .i64 62]) (by simp [results, Tryd.results34, go_sem, d0, d1, d2]) rfl ?_
        rw [HE.out]
        exact ⟨none, 0, rfl, World.ownsRow_nil _ _ _ _, hbs⟩
      | true =>
        have HE : Hid (decF l = (⟨kind, seq, (l.take (size - 4)).drop 16⟩, size, 0)) := Lib.hid (by rw [HD.out, if_neg (by simp), if_neg (by omega), hz, if_neg (by simp)])
        have hbl : ((l.take (size - 4)).drop 16).length = size - 20 := by rw [List.length_drop, List.length_take]; omega
        have hbody : ((l.take size).drop 16).take (size - 20) = (l.take (size - 4)).drop 16 := by rw [List.take_drop, List.take_take]; congr 2; omega
        obtain ⟨D, hDD⟩ : ∃ D, (l.take (size - 4)).drop 16 = D := ⟨_, rfl⟩
        rw [hDD] at HE hbl hbody
        have HB := Lib.hid hbl
        clear hDD
        have HY := Lib.hid hbody
        have hcut2 : ∀ wx, (Instr.slice 22 (.slice a2 (size - 16) (size - 16)) none (some (.int .i64 ((size - 20 : Nat) : Int))) none).run Tryd.prog wx = .ok (.slice a2 (size - 20) (size - 16)) wx := fun wx => run_cut0 slB wx (size - 20) (by omega)
        have hci : ((size - 16 : Nat) : Int) - 4 = ((size - 20 : Nat) : Int) := by omega
        have ha2 : a2 = none → size - 20 = 0 := by
          rintro rfl
          rcases rr.2.2.2 with h | ⟨b, o, h, _⟩
          · omega
          · cases h
        have HA := Lib.hid ha2
        clear e1 p8 hz hbl hbody ha2
        go_enter Tryd.func34, Tryd.ntmps34
        go_wp2_with fail
        (with_reducible refine (peek_any _ _ _ l _ r0 ht0).mono ?_)
        rintro e w1 ⟨rfl, hb1⟩
        rw [HP0.out]
        have rr1 := rr0.below hb1
        have ht1 := ht0.below hb1
        go_wp2_with fail
        (with_reducible refine (closedB_any _ _ _ ((l.take size).drop 16) _ rr1 ht1).mono ?_)
        rintro e w2 ⟨rfl, hb2⟩
        rw [HZ.out]
        have hbx := below_next hb1 hb2
        have rr2 := rr1.below hb2
        have hbod : RowAt w2 a2 (size - 20) (size - 16) 1 (D.map B) := by
          have := rowB_upto rr2 (show size - 20 ≤ size - 16 by omega)
          rw [HY.out] at this
          exact this
        go_wp2_with fail
        (with_reducible refine (clone_any _ _ _ D _ (by omega) hbod HA.out).mono ?_)
        rintro e w3 ⟨a3, c3, rfl, ho3, hb3⟩
        have hby := below_next hbx hb3
        have h1 := (hby.block _ hz0).trans h0
        obtain ⟨c0, c1, c2, f0, f1, f2⟩ := laid3 h1
        have s0 := set3_0 (u := .int .i64 (kind : Int)) h1
        have s1 := set3_1 (u := .int .i64 (seq : Int)) s0
        have s2 := set3_2 (u := .slice a3 D.length c3) s1
        obtain ⟨d0, d1, d2, _, _, _⟩ := laid3 s2
        have g1 : ((w3.setCell ⟨w.heap.size, 0, none⟩ (.int .i64 (kind : Int)))).frozen? ⟨w.heap.size, 1, none⟩ = false := free_blk s0
        have g2 : ((w3.setCell ⟨w.heap.size, 0, none⟩ (.int .i64 (kind : Int))).setCell ⟨w.heap.size, 1, none⟩ (.int .i64 (seq : Int))).frozen? ⟨w.heap.size, 2, none⟩ = false := free_blk s1
        have hbs := below_set3 (x := .int .i64 (kind : Int)) (y := .int .i64 (seq : Int)) (z := .slice a3 D.length c3) (below_next hb0 hby) (Nat.le_refl _)
        have hos := own_set3 (x := .int .i64 (kind : Int)) (y := .int .i64 (seq : Int)) (z := .slice a3 D.length c3) (b := w.heap.size) ho3 (fun e => by have := (ho3.lt _ e).1; have := hbx.size; omega)
        have hww : w.heap.size ≤ w2.heap.size := by have := hbx.size; omega
        clear s0 s1 s2 h1 h0
        go_wp2_with fail
        refine bodyPost_ret (v := .tuple #[.agg #[.int .i64 (kind : Int), .int .i64 (seq : Int), .slice a3 D.length c3], .int .i64 (size : Int), .int .i64 0]) (by simp [results, Tryd.results34, go_sem, d0, d1, d2]) rfl ?_
        rw [HE.out]
        exact ⟨a3, c3, rfl, own_mono hos hww, hbs⟩
  · have HE : Hid (decF l = (Fr.none, 0, e)) := Lib.hid (by rw [HD.out, if_pos he])
    have heb : ((e : Int) != 0) = true := by rw [bne_iff_ne]; omega
    clear e1 p5 he
    go_enter Tryd.func34, Tryd.ntmps34
    go_wp2_with fail
    (with_reducible refine (peek_any _ _ _ l _ r0 ht0).mono ?_)
    rintro e' w1 ⟨rfl, hb1⟩
    rw [HP.out]
    have h1 := (hb1.block _ hz0).trans h0
    obtain ⟨c0, c1, c2, f0, f1, f2⟩ := laid3 h1
    have s0 := set3_0 (u := .int .i64 0) h1
    have s1 := set3_1 (u := .int .i64 0) s0
    have s2 := set3_2 (u := .slice none 0 0) s1
    obtain ⟨d0, d1, d2, _, _, _⟩ := laid3 s2
    have g1 : ((w1.setCell ⟨w.heap.size, 0, none⟩ (.int .i64 0))).frozen? ⟨w.heap.size, 1, none⟩ = false := free_blk s0
    have g2 : ((w1.setCell ⟨w.heap.size, 0, none⟩ (.int .i64 0)).setCell ⟨w.heap.size, 1, none⟩ (.int .i64 0)).frozen? ⟨w.heap.size, 2, none⟩ = false := free_blk s1
    have hbs := below_set3 (x := .int .i64 0) (y := .int .i64 0) (z := .slice none 0 0) (below_next hb0 hb1) (Nat.le_refl _)
    clear s0 s1 s2 h1 h0
    go_wp2_with fail
    refine bodyPost_ret (v := .tuple #[.agg #[.int .i64 0, .int .i64 0, .slice none 0 0], .int .i64 0, .int .i64 (e : Int)]) (by simp [results, Tryd.results34, go_sem, d0, d1, d2]) rfl ?_
    rw [HE.out]
    exact ⟨none, 0, rfl, World.ownsRow_nil _ _ _ _, hbs⟩
end Go.Proofs.YtffhejaeliphcaaDoor
