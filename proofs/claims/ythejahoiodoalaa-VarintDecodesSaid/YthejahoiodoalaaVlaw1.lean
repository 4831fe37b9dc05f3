/-
  The walks of the layer's own helpers (head, sameNums) and of VarintRises, VarintDecodes, VarintOneForm, VarintEncodes. Conditions: arguments read as their types say, within the form's own reach.
-/
import Derived.Test.YthejahoiodoalaaVlists
namespace Go.Proofs.Ythejahoiodoalaa
open Go.RowKit
set_option linter.unusedVariables false

theorem below_lit3 (w : World) (a b c : Int) (e : TypeId) : RowAt (w.alloc (.cells #[.int .u8 a, .int .u8 b, .int .u8 c] e)) (some ⟨w.heap.size, 0, none⟩) 3 3 1 [.int .u8 a, .int .u8 b, .int .u8 c] :=
  rowAt_lit w [_, _, _] 3 1 e rfl (by decide)

theorem dec_head : dec [172, 2, 85] = (300, 2, 0) := by decide +kernel

set_option maxHeartbeats 400000 in
theorem head_any (w : World) : Calls Try.prog 19 #[] w fun e w' => e = .returned (.bool true) ∧ Below w.heap.size w w' := by
  have he : enc (300 : Int).toNat = [172, 2] := by rw [show (300 : Int).toNat = 300 from rfl, enc_ge (by decide), enc_lt (by decide)]; rfl
  have HD : Hid (decV [172, 2, 85] = .tuple #[.int .u64 300, .int .i64 2, .int .i64 0]) := Lib.hid (by unfold decV; rw [dec_head]; rfl)
  have HE := Lib.hid he; clear he
  go_enter Try.func19, Try.ntmps19
  go_wp2_with fail
  refine (enc_any _ _ (by omega) (by omega)).mono ?_
  rintro e w1 ⟨a, cap, rfl, hown, hb⟩
  rw [HE.out] at *
  have hr := own_rowAt hown
  obtain ⟨b0, o0, x0, ha, hx0, hc0⟩ := (hr.below (below_made w1 (.cells #[.int .u8 172, .int .u8 2, .int .u8 85] 5))).byte 0 (by decide)
  obtain ⟨b1, o1, x1, ha1, hx1, hc1⟩ := (hr.below (below_made w1 (.cells #[.int .u8 172, .int .u8 2, .int .u8 85] 5))).byte 1 (by decide)
  subst ha
  obtain ⟨rfl, rfl⟩ : b0 = b1 ∧ o0 = o1 := by simpa using ha1
  obtain rfl : x0 = 172 := by simpa using hx0.symm
  obtain rfl : x1 = 2 := by simpa using hx1.symm
  clear ha1 hx0 hx1 hr hown
  change _ = some (Value.int .u8 172) at hc0
  change _ = some (Value.int .u8 2) at hc1
  rw [Nat.add_zero] at hc0
  go_wp2_with fail
  refine (dec_any _ _ _ [172, 2, 85] _ (below_lit3 _ _ _ _ _)).mono ?_
  rintro e w2 ⟨rfl, rfl⟩
  rw [HD.out]
  go_wp2_with fail
  go_ret
  exact ⟨rfl, below_next hb (below_made _ _)⟩

/-- Whether two lists of numbers are alike, as the law's own helper tells it. -/
theorem sameU_step {l m : List UInt64} {k : Nat} {c d : UInt64} (hc : l[k]? = some c) (hd : m[k]? = some d) (h : l.take k = m.take k) (hcd : c = d) : l.take (k + 1) = m.take (k + 1) := by
  rw [List.take_add_one, List.take_add_one, hc, hd, h, hcd]
theorem takeU_ne {l m : List UInt64} {k : Nat} {c d : UInt64} (hc : l[k]? = some c) (hd : m[k]? = some d) (hcd : c ≠ d) : (l == m) = false := by
  rw [beq_eq_false_iff_ne]; rintro rfl; rw [hc] at hd; exact hcd (Option.some.inj hd)

set_option maxHeartbeats 400000 in
theorem sameNums_any (a1 : Option Addr) (n1 c1 : Nat) (l1 : List UInt64) (a2 : Option Addr) (n2 c2 : Nat) (l2 : List UInt64) (w : World) (r1 : RowAt w a1 n1 c1 1 (l1.map U)) (r2 : RowAt w a2 n2 c2 1 (l2.map U)) :
    Calls Try.prog 27 #[.slice a1 n1 c1, .slice a2 n2 c2] w fun e w' => e = .returned (.bool (l1 == l2)) ∧ Still w w' := by
  have e1 : l1.length = n1 := by simpa using r1.len
  have e2 : l2.length = n2 := by simpa using r2.len
  have m1 := r1.2.2.1
  have m2 := r1.2.1
  unfold maxLen at m1
  by_cases hn : n1 = n2
  · subst hn
    go_enter Try.func27, Try.ntmps27
    have H2 := Lib.hid e2; clear e2
    have H1 := Lib.hid e1; clear e1
    go_wp2
    go_loopw [13] (fun iv wr => ∃ k : Nat, iv = .int .i64 (k : Int) ∧ k ≤ n1 ∧ l1.take k = l2.take k ∧ Still w wr) (fun iv _ => n1 - (intOf iv).toNat)
    case atStart => exact ⟨0, rfl, Nat.zero_le _, rfl, Still.refl _⟩
    case round =>
      obtain ⟨k, rfl, hk, ht, q, rfl⟩ := hrel
      have HT := Lib.hid ht; clear ht
      by_cases hlt : k < n1
      · obtain ⟨b1, o1, x1, rfl, hx1, hc1⟩ := r1.elem k hlt
        obtain ⟨b2, o2, x2, rfl, hx2, hc2⟩ := r2.elem k hlt
        unfold U at hc1 hc2
        have HX1 := Lib.hid hx1; clear hx1
        have HX2 := Lib.hid hx2; clear hx2
        have hlt' : (k : Int) < (n1 : Int) := by omega
        by_cases hcd : x1 = x2
        · have hb : ((x1.toNat : Int) != (x2.toNat : Int)) = false := by simp [hcd]
          go_wp2
          go_quiet (fail)
          go_wp2
          go_roundw
          case rel => exact ⟨k + 1, by go_num, by omega, sameU_step HX1.out HX2.out HT.out hcd, Still.one _ _⟩
          case measure => first | (simp [intOf]; omega) | simp [intOf]
        · have hb : ((x1.toNat : Int) != (x2.toNat : Int)) = true := by
            rw [bne_iff_ne]; intro h; exact hcd (UInt64.toNat_inj.1 (by omega))
          go_wp2
          go_quiet (fail)
          go_wp2
          go_ret
          exact ⟨ret_bool (takeU_ne HX1.out HX2.out hcd).symm, Still.two _ _ _⟩
      · go_wp2
        go_ret
        refine ⟨ret_bool ?_, Still.one _ _⟩
        have ht := HT.out
        rw [List.take_of_length_le (by have := H1.out; omega), List.take_of_length_le (by have := H2.out; omega)] at ht
        rw [ht]; simp
  · have hb : ((n1 : Int) != (n2 : Int)) = true := by rw [bne_iff_ne]; omega
    go_enter Try.func27, Try.ntmps27
    have H2 := Lib.hid e2; clear e2
    have H1 := Lib.hid e1; clear e1
    go_wp2
    go_ret
    refine ⟨ret_bool ?_, Still.refl _⟩
    symm
    rw [beq_eq_false_iff_ne]
    rintro rfl
    exact hn (H1.out.symm.trans H2.out)

/-- A greater number has no fewer bytes. -/
theorem enc_mono (n : Nat) : ∀ u v : Nat, v ≤ n → u ≤ v → (enc u).length ≤ (enc v).length := by
  induction n with
  | zero => intro u v h1 h2; obtain rfl : u = v := by omega
            exact Nat.le_refl _
  | succ n ih =>
    intro u v h1 h2
    by_cases hu : u < 128
    · rw [enc_lt hu]; exact enc_len_pos v
    · rw [enc_ge (u := u) (by omega), enc_ge (u := v) (by omega)]
      have := ih (u / 128) (v / 128) (by omega) (by omega)
      simp only [List.length_cons]; omega

theorem enc_128 (u : Nat) (h : 0 < u) : (enc (u * 128)).length = (enc u).length + 1 := by
  rw [enc_ge (by omega), Nat.mul_div_cancel _ (by decide)]; rfl

set_option maxHeartbeats 800000 in
theorem rises_walk (u v : Int) (w : World) (h1 : 0 ≤ u) (h2 : u < 18446744073709551616) (h3 : 0 ≤ v) (h4 : v < 18446744073709551616) :
    Calls Try.prog 5 #[.int .u64 u, .int .u64 v] w fun e w' => e = .returned (.bool true) ∧ Below w.heap.size w w' := by
  have s1 : Hid (((enc (127 : Int).toNat).length : Int) = 1) := Lib.hid (by rw [show (127 : Int).toNat = 127 from rfl, enc_lt (by decide)]; rfl)
  have s2 : Hid (((enc (128 : Int).toNat).length : Int) = 2) := Lib.hid (by rw [show (128 : Int).toNat = 128 from rfl, enc_ge (by decide), enc_lt (by decide)]; rfl)
  obtain ⟨eu, heu⟩ : ∃ eu, (enc u.toNat).length = eu := ⟨_, rfl⟩
  obtain ⟨ev, hev⟩ : ∃ ev, (enc v.toNat).length = ev := ⟨_, rfl⟩
  have HEU := Lib.hid heu
  have HEV := Lib.hid hev
  have hm : u ≤ v → eu ≤ ev := fun h => by rw [← heu, ← hev]; exact enc_mono _ _ _ (Nat.le_refl _) (by omega)
  have h128 : 0 < u → u < 144115188075855872 → (enc (u * 128).toNat).length = eu + 1 := fun a b => by rw [show (u * 128).toNat = u.toNat * 128 by omega, enc_128 _ (by omega), heu]
  have leu := enc_len10 u.toNat (by omega)
  rw [heu] at leu
  clear heu hev
  have hb1 : ((eu : Int) != (eu : Int)) = false := by simp
  have hb2 : ((eu : Int) == (eu : Int)) = true := by simp
  have hb3 : ((eu : Int) + 1 != (eu : Int) + 1) = false := by simp
  have H128 := Lib.hid h128; clear h128
  by_cases c1 : u ≤ v
  all_goals by_cases c2 : 0 < u ∧ u < 144115188075855872
  all_goals
    (try have hm' := hm c1)
    clear hm
    (try obtain ⟨c3, c4⟩ := c2)
    go_enter Try.func5, Try.ntmps5
    go_wp2_with fail
    refine (size_any _ _ (by omega) (by omega)).mono ?_; rintro e w' ⟨rfl, rfl⟩
    rw [s1.out]
    go_wp2_with fail
    refine (size_any _ _ (by omega) (by omega)).mono ?_; rintro e w' ⟨rfl, rfl⟩
    rw [s2.out]
    go_wp2_with fail
  repeat' (refine (size_any _ _ (by omega) (by omega)).mono ?_; rintro e w' ⟨rfl, rfl⟩; (first | rw [HEU.out] | rw [HEV.out] | rw [H128.out c3 c4]); go_wp2_with fail)
  all_goals
    refine (enc_any _ _ (by omega) (by omega)).mono ?_
    rintro e w1 ⟨a, cap, rfl, hown, hb⟩
    clear hown
    rw [HEU.out]
    go_wp2_with fail
    go_ret
    exact ⟨rfl, hb⟩

end Go.Proofs.Ythejahoiodoalaa
