/-
  The walk of IndexNear. Conditions: arguments read as their types say, within the form's own reach.
-/
import Derived.Test.YtgdepgfipocdcaaIlaw1
import Derived.Test.YtgdepgfipocdcaaIlaw3
import Derived.Test.YtgdepgfipocdcaaInear
namespace Go.Proofs.Ytgdepgfipocdcaa
open Go.RowKit
set_option linter.unusedVariables false

theorem i64_and1023 (n : Int) : bits .and .i64 n 1023 = n % 1024 := by
  have h127 : (BitVec.ofInt 64 1023).toNat = 2 ^ 10 - 1 := by decide
  have key : (BitVec.ofInt 64 n &&& BitVec.ofInt 64 1023).toNat = (n % ((2 ^ 64 : Nat) : Int)).toNat % 2 ^ 10 := by
    rw [BitVec.toNat_and, BitVec.toNat_ofInt, h127, Nat.and_two_pow_sub_one_eq_mod]
  show IntKind.i64.wrap ((BitVec.ofInt 64 n &&& BitVec.ofInt 64 1023).toNat : Nat) = n % 1024
  rw [key, IntKind.wrap_i64]
  omega

set_option maxHeartbeats 1600000 in
theorem near_walk (first : Int) (a : Option Addr) (n c : Nat) (zs : List Int) (stride which : Int) (w : World) (f0 : -9223372036854775808 ≤ first) (f1 : first ≤ 9223372036854775807)
    (r : RowAt w a n c 1 (zs.map IV)) (hs : n * 8 ≤ 140737488351232) (s0 : -9223372036854775808 ≤ stride) (s1 : stride ≤ 9223372036854775807) (h0 : -9223372036854775808 ≤ which) (h1 : which ≤ 9223372036854775807) :
    Calls Try.prog 6 #[.int .i64 first, .slice a n c, .int .i64 stride, .int .i64 which] w fun e w' => e = .returned (.bool true) ∧ Below w.heap.size w w' := by
  by_cases hgo : 1 ≤ first ∧ first ≤ 549755813888 ∧ n ≤ 512 ∧ 1 ≤ stride
  · obtain ⟨g1, g2, g3, g4⟩ := hgo
    have q1 : ¬ first < 1 := by omega
    have q2 : ¬ 549755813888 < first := by omega
    have q3 : ¬ (512 : Int) < (n : Int) := by omega
    have q4 : ¬ stride < 1 := by omega
    go_enter Try.func6, Try.ntmps6
    go_wp2_with fail
    (with_reducible refine (head_any _).mono ?_)
    rintro e w1 ⟨rfl, hb1⟩
    have ho1 := own_lit w1 [] 0 5 43 rfl (by decide)
    have hm1 := below_made w1 (.cells [].toArray 43)
    have hb2 := below_next hb1 hm1
    go_wp2_with fail
    go_loopw [9, 10, 40] (fun pv av iv wr => ∃ (k : Nat) (T : Int) (L : List Pl) (a : Option Addr) (cap : Nat), pv = .slice a k cap ∧ av = .int .i64 T ∧ iv = .int .i64 (k : Int) ∧ k ≤ n ∧ 0 ≤ T ∧ T ≤ 1043 * (k : Int) ∧ Hid (L.length = k) ∧
      wr.ownsRow w1.heap.size 43 5 (.slice a k cap) k (L.flatMap Pl.cells) ∧ Hid (Run L first T) ∧ Below w1.heap.size w1 wr) (fun _ _ iv _ => n - (intOf iv).toNat)
    case atStart => exact ⟨0, 0, [], _, _, rfl, rfl, rfl, Nat.zero_le _, Int.le_refl _, by omega, Lib.hid rfl, ho1, Lib.hid (Run.nil first), hm1⟩
    case round =>
      clear ho1 hm1 hb2
      obtain ⟨k, T, L, a2, cap, rfl, rfl, rfl, hk, hT0, hT1, HLk, ho, HR, hb⟩ := hrel
      have hsz := hb.size
      by_cases hlt : k < n
      · obtain ⟨b, off, s, rfl, hs, hcell⟩ := ((r.below hb1).below hb).elem k hlt
        unfold IV at hcell
        have h15 := i64_and1023 s
        obtain ⟨x, hx⟩ : ∃ x, s % 1024 = x := ⟨_, rfl⟩
        have hx0 : 0 ≤ x ∧ x ≤ 1023 := by omega
        obtain ⟨hx0, hx1⟩ := hx0
        rw [hx] at h15
        clear hs hx
        have HR2 := Lib.hid (HR.out.snoc ⟨T, 20 + x, 1, first + (k : Int), none, 0, 0⟩ (by rw [HLk.out]) rfl hT0 (T' := T + (20 + x)) (by omega))
        go_wp2_with (at_builtin; refine wpList_appL 1 rfl _ _ 36 rfl slP rfl ho rfl rfl rfl (by decide) (P_one [⟨T, 20 + x, 1, first + (k : Int), none, 0, 0⟩]) (by omega) hsz fun a3 c3 w3 hown3 hg3 => ?_)
        go_roundw
        case rel => exact ⟨k + 1, T + (20 + x), _, a3, c3, rfl, rfl, by go_num, by omega, by omega, by omega, Lib.hid (by rw [List.length_append, HLk.out]; rfl), by rw [List.flatMap_append]; exact hown3, HR2, hb.grown hg3 hsz (own_block ho)⟩
        case measure => simp [intOf]; omega
      · obtain rfl : k = n := by omega
        have hlk : ¬ (k : Int) < (k : Int) := by omega
        have hb3 := below_next hb1 hb
        have rL := own_rowAt ho
        have ho4 := own_lit wr [] 0 5 43 rfl (by decide)
        have hm4 := below_made wr (.cells [].toArray 43)
        have hsz4 := hm4.size
        go_wp2_with (at_builtin; refine wpList_app rfl _ _ 36 rfl slP rfl ho4 rfl (rL.below hm4) (P_one _) (by omega) (by simp) fun a5 c5 w5 ho5 hg5 => ?_)
        rw [List.nil_append, Nat.zero_add] at ho5
        have hb5 := hm4.grown hg5 hsz4 (own_block ho4)
        have r5 := rL.below hb5
        have m5 := own_rowAt ho5
        have hb6 := below_next hb3 hb5
        clear ho4 hm4 hsz4 hg5 ho5 hb5 rL ho hb3 hb
        (with_reducible refine (build_any _ _ _ L stride _ (by omega) m5 s1).mono ?_)
        rintro e w6 ⟨a6, c6, rfl, ho6, hb7⟩
        have r6 := r5.below hb7
        have m6 := own_rowAt ho6
        have hb8 := below_next hb6 hb7
        clear hb6 hb7 r5 m5 ho6
        obtain ⟨st, hst⟩ : ∃ st : Nat, (st : Int) = stride := ⟨stride.toNat, by omega⟩
        have hst0 : 0 < st := by omega
        have hM : buildN L stride = every st 0 L := by unfold buildN; rw [if_neg (by omega), ← hst, Int.toNat_natCast]
        have hel := every_len st L 0
        rw [HLk.out] at hel
        have hok : okN (every st 0 L) = true := near_ok HR.out g1 g2 (by rw [HLk.out]; exact g3) (by omega)
        have HO := Lib.hid hok
        have HST := Lib.hid hst
        rw [hM] at m6 ⊢
        obtain ⟨M, hMM⟩ : ∃ M, every st 0 L = M := ⟨_, rfl⟩
        have HM := Lib.hid hMM
        rw [hMM] at m6 HO hel ⊢
        obtain ⟨q, hq⟩ : ∃ q, M.length = q := ⟨_, rfl⟩
        have HQ := Lib.hid hq
        rw [hq] at m6 hel ⊢
        clear hM hok hst hMM hq
        go_wp2_with fail
        (with_reducible refine (mcopy_any _ _ _ M _ (by omega) m6).mono ?_)
        rintro e w7 ⟨a7, c7, rfl, ho7, hb9⟩
        rw [HQ.out] at ho7 ⊢
        have r7 := r6.below hb9
        have m7 := m6.below hb9
        have hb10 := below_next hb8 hb9
        clear hb8 hb9 r6 m6
        go_wp2_with fail
        (with_reducible refine (valid_any _ _ _ M _ (own_rowAt ho7)).mono ?_)
        rintro e w8 ⟨rfl, hb11⟩
        rw [HO.out]
        have r8 := r7.below hb11
        have m8 := m7.below hb11
        have hb12 := below_next hb10 hb11
        clear hb10 hb11 r7 m7 ho7
        go_wp2_with fail
        (with_reducible refine (mcopy_any _ _ _ M _ (by omega) m8).mono ?_)
        rintro e w9 ⟨a9, c9, rfl, ho9, hb13⟩
        rw [HQ.out] at ho9 ⊢
        have r9 := r8.below hb13
        have m9 := m8.below hb13
        have hb14 := below_next hb12 hb13
        clear hb12 hb13 r8 m8
        go_wp2_with fail
        (with_reducible refine (seek_any _ _ _ M (first - 1) _ (own_rowAt ho9) (by omega)).mono ?_)
        rintro e w10 ⟨⟨l, rfl, hl⟩, hb15⟩
        have hlz : l = 0 := by
          have h2 := HQ.out
          rw [← HM.out] at hl h2
          exact near_early HR.out hl h2
        subst hlz
        rw [show foundV M 0 = .tuple #[.agg #[.int .i64 0, .int .i64 0], .bool false] from rfl]
        have r10 := r9.below hb15
        have m10 := m9.below hb15
        have hb16 := below_next hb14 hb15
        clear hb14 hb15 r9 m9 ho9 hl
        have hmk := below_made w10 (.cells #[.int .i64 0, .int .i64 0] 31)
        have r11 := r10.below hmk
        have m11 := m10.below hmk
        have hb17 := below_next hb16 hmk
        clear hmk r10 m10 hb16
        by_cases hwh : 0 ≤ which ∧ which < (k : Int)
        · obtain ⟨v1, v2⟩ := hwh
          go_wp2_with fail
          (with_reducible refine (mcopy_any _ _ _ M _ (by omega) m11).mono ?_)
          rintro e w12 ⟨a12, c12, rfl, ho12, hb18⟩
          rw [HQ.out] at ho12 ⊢
          have r12 := r11.below hb18
          have hb19 := below_next hb17 hb18
          clear hb17 hb18 r11 m11
          go_wp2_with fail
          (with_reducible refine (seek_any _ _ _ M (first + which) _ (own_rowAt ho12) (by omega)).mono ?_)
          rintro e w13 ⟨⟨l, rfl, hl⟩, hb20⟩
          have r13 := r12.below hb20
          have hb21 := below_next hb19 hb20
          obtain ⟨wn, hwn⟩ : ∃ wn : Nat, (wn : Int) = which := ⟨which.toNat, by omega⟩
          have hfd : ∃ (j : Nat) (p : Pl), 0 < l ∧ M[l - 1]? = some ⟨first + (j : Int), p.at'⟩ ∧ L[j]? = some p ∧ j ≤ wn ∧ wn - j < st := by
            have h2 := HQ.out
            rw [← HM.out] at hl h2 ⊢
            rw [← hwn] at hl
            exact near_found HR.out hst0 (by rw [HLk.out]; omega) hl h2
          obtain ⟨j, p, l0, hMj, hLj, hj1, hj2⟩ := hfd
          have hv : foundV M l = .tuple #[.agg #[.int .i64 (first + (j : Int)), .int .i64 p.at'], .bool true] := by
            unfold foundV; rw [if_neg (by omega), List.getD_eq_getElem?_getD, hMj]; rfl
          have hstr := HST.out
          rw [hv]
          clear hv hMj hl hb19 hb20 r12 ho12
          have hmk := below_made w13 (.cells #[.int .i64 (first + (j : Int)), .int .i64 p.at'] 31)
          have r14 := r13.below hmk
          have hb22 := below_next hb21 hmk
          have hjk : j < k := by omega
          obtain ⟨bq, oq, p', rfl, hp', e0, _⟩ := pl_at r14 j hjk
          rw [hLj] at hp'
          cases hp'
          have i0 : (0 : Int) ≤ (j : Int) := by omega
          have i1 : (j : Int) ≤ which := by omega
          have i2 : which - (j : Int) < stride := by omega
          have i3 : (j : Int) < (k : Int) := by omega
          have i4 : first + (j : Int) - first = (j : Int) := by omega
          have i5 : IntKind.i64.wrap (which - (j : Int)) = which - (j : Int) := IntWalk.i64_in _ (by omega)
          have hmb := heap_alloc_new w13 (.cells #[.int .i64 (first + (j : Int)), .int .i64 p.at'] 31)
          have d0 := cell_two0 hmb
          have d1 := cell_two1 hmb
          have k0 : decide ((0 : Int) ≤ (j : Int)) = true := by simp
          have k1 : decide ((j : Int) ≤ which) = true := by simpa using i1
          have k2 : decide (which - (j : Int) < stride) = true := by simpa using i2
          have i6 : (j : Int).toNat = j := by simp
          clear hmk r14 r13 hb21 hLj hmb
          have hwn' := Lib.hid hwn
          clear hwn hstr
          go_wp2_with fail
          go_quiet (fail)
          go_wp2_with fail
          go_ret
          exact ⟨rfl, hb22.trans ((Still.one _ _).below _)⟩
        · by_cases hw0 : which < 0
          · go_wp2_with fail
            go_ret
            exact ⟨rfl, hb17⟩
          · have hw1 : (k : Int) ≤ which := by omega
            clear hwh
            go_wp2_with fail
            go_ret
            exact ⟨rfl, hb17⟩
  · have hend : ∀ w1, Below w.heap.size w w1 → (first < 1 ∨ 549755813888 < first ∨ 512 < (n : Int) ∨ stride < 1) := fun _ _ => by omega
    have hor := hend w (Below.refl _ _)
    clear hend hgo
    have HL : Hid True := Lib.hid trivial
    by_cases c1 : first < 1
    · go_enter Try.func6, Try.ntmps6
      go_wp2_with fail
      (with_reducible refine (head_any _).mono ?_)
      rintro e w1 ⟨rfl, hb1⟩
      go_wp2_with fail
      go_ret
      exact ⟨rfl, hb1⟩
    · by_cases c2 : 549755813888 < first
      · go_enter Try.func6, Try.ntmps6
        go_wp2_with fail
        (with_reducible refine (head_any _).mono ?_)
        rintro e w1 ⟨rfl, hb1⟩
        go_wp2_with fail
        go_ret
        exact ⟨rfl, hb1⟩
      · by_cases c3 : 512 < (n : Int)
        · clear hor
          go_enter Try.func6, Try.ntmps6
          go_wp2_with fail
          (with_reducible refine (head_any _).mono ?_)
          rintro e w1 ⟨rfl, hb1⟩
          go_wp2_with fail
          go_ret
          exact ⟨rfl, hb1⟩
        · have c4 : stride < 1 := by omega
          clear hor
          go_enter Try.func6, Try.ntmps6
          go_wp2_with fail
          (with_reducible refine (head_any _).mono ?_)
          rintro e w1 ⟨rfl, hb1⟩
          go_wp2_with fail
          go_ret
          exact ⟨rfl, hb1⟩
end Go.Proofs.Ytgdepgfipocdcaa
