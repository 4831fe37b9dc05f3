/-
  The walks of EncodeAll and of both DecodeAll. Conditions: the arguments read as their types say; what is written has at most 2^47 bytes.
-/
import Derived.Test.YtffhejaeliphcaaDoorMVe
import Derived.Test.YtffhejaeliphcaaDoorMVd
namespace Go.Proofs.YtffhejaeliphcaaDoor
open Go.RowKit
set_option linter.unusedVariables false

set_option maxHeartbeats 400000 in
theorem encAll_any (a1 : Option Addr) (n1 c1 : Nat) (us : List UInt64) (w : World) (hlen : (encAll us).length ≤ 140737488355328) (r1 : RowAt w a1 n1 c1 1 (us.map U)) :
    Calls Tryd.prog 79 #[.slice a1 n1 c1] w (GivesB 5 w (encAll us)) := by
  have e1 : us.length = n1 := by simpa using r1.len
  have m1 := r1.2.2.1
  have m2 := r1.2.1
  unfold maxLen at m1
  have HL := Lib.hid hlen; clear hlen
  have hl0 := enc_len10 n1 (by omega)
  have H1 := Lib.hid e1; clear e1
  go_enter Tryd.func79, Tryd.ntmps79
  go_wp2_with fail
  refine (enc_any _ _ (by omega) (by omega)).mono ?_
  rintro e w1 ⟨a, cap, rfl, hown, hb⟩
  go_wp2
  go_loopw [3, 5, 12] (fun bv _ iv wr => ∃ (k : Nat) (l : List UInt8) (a : Option Addr) (cap : Nat), iv = .int .i64 (k : Int) ∧ k ≤ n1 ∧ bv = .slice a l.length cap ∧
    wr.ownsRow w.heap.size 5 1 (.slice a l.length cap) l.length (l.map B) ∧ Hid (l ++ encs (us.drop k) = encAll us) ∧ Below w.heap.size w wr) (fun _ _ iv _ => n1 - (intOf iv).toNat)
  case atStart => exact ⟨0, _, a, cap, rfl, Nat.zero_le _, rfl, hown, Lib.hid (by have := H1.out; unfold encAll; rw [this]; rfl), hb⟩
  case round =>
    clear hown hb
    obtain ⟨k, l, a, cap, rfl, hk, rfl, hown, HT, hb⟩ := hrel
    by_cases hlt : k < n1
    · obtain ⟨b1, o1, x, rfl, hx1, hc1⟩ := (r1.below hb).elem k hlt
      unfold U at hc1
      have hx := x.toNat_lt
      have HX1 := Lib.hid hx1; clear hx1
      have hle : l.length + (enc x.toNat).length ≤ 140737488355328 := by
        have h1 := HT.out
        rw [encs_drop HX1.out] at h1
        have := HL.out
        rw [← h1] at this
        simp only [List.length_append] at this
        omega
      go_wp2_with fail
      refine (enc_any _ _ (by omega) (by omega)).mono ?_
      rintro e w2 ⟨a2, cap2, rfl, hown2, hb2⟩
      have ho1 := own_below hown hb2
      have hsz := hb.size
      have hsz2 := hb2.size
      simp only [Int.toNat_natCast] at *
      go_wp2_with (at_builtin; refine wpList_app rfl _ _ 22 rfl slB rfl ho1 rfl (own_rowAt hown2) (B_one _) (by omega) (by omega) fun a3 cap3 w3 hown3 hg3 => ?_)
      go_roundw
      case rel =>
        exact ⟨k + 1, l ++ enc x.toNat, a3, cap3, by go_num, by omega, by simp, by simpa using hown3, Lib.hid (by have h1 := HT.out; rw [encs_drop HX1.out] at h1; rw [← h1]; simp), (below_next hb hb2).grown hg3 (by omega) (own_block ho1)⟩
      case measure => first | (simp [intOf]; omega) | simp [intOf]
    · go_wp2
      go_ret
      have h1 := HT.out
      rw [List.drop_eq_nil_of_le (by have := H1.out; omega)] at h1
      simp only [encs, List.flatMap_nil, List.append_nil] at h1
      rw [← h1]
      exact ⟨a, cap, rfl, hown, hb⟩
/-- The word of DecodeAll's contract: numbers in new memory, a count of bytes, an error's number. -/
def GivesN (eU : TypeId) (w : World) (x : List UInt64 × Nat × Nat) (e : Ending) (w' : World) : Prop :=
  ∃ a cap, e = .returned (.tuple #[.slice a x.1.length cap, .int .i64 (x.2.1 : Int), .int .i64 (x.2.2 : Int)]) ∧ w'.ownsRow w.heap.size eU 1 (.slice a x.1.length cap) x.1.length (x.1.map U) ∧ Below w.heap.size w w'

theorem slU : SlTy Tryd.prog 98 99 1 8 (.int .u64 0) := slTy_mk Tryd.underlying98 (by kernel_rfl) rfl (by decide) (by decide)

theorem own_nil (w : World) (e : TypeId) (size : Nat) : w.ownsRow w.heap.size e size (.slice none 0 0) 0 [] := World.ownsRow_nil _ _ _ _

set_option maxHeartbeats 400000 in
theorem decAll_any (a1 : Option Addr) (n1 c1 : Nat) (l : List UInt8) (most : Int) (w : World) (hlen : n1 * 8 ≤ 140737488355328 ∨ most ≤ 1048576) (r1 : RowAt w a1 n1 c1 1 (l.map B)) (hm1 : -9223372036854775808 ≤ most) (hm2 : most ≤ 9223372036854775807) :
    Calls Tryd.prog 76 #[.slice a1 n1 c1, .int .i64 most] w (GivesN 99 w (decAll l most)) := by
  have e1 : l.length = n1 := by simpa using r1.len
  have m1 := r1.2.2.1
  have m2 := r1.2.1
  unfold maxLen at m1
  have d3 : (dec l).2.1 ≤ n1 := by have := dec_bd l; omega
  have H1 := Lib.hid e1; clear e1
  obtain ⟨d1, d2, _, d4⟩ := dec_bd l
  obtain ⟨x, hx⟩ : ∃ x, dec l = x := ⟨_, rfl⟩
  obtain ⟨n, at', e⟩ := x
  have HD := Lib.hid hx
  rw [hx] at d1 d2 d3 d4
  simp only at d1 d2 d3 d4
  clear hx
  have d1' : n < 2 ^ 64 := by omega
  clear d1
  have HV : Hid (decV l = .tuple #[.int .u64 (n : Int), .int .i64 (at' : Int), .int .i64 (e : Int)]) := Lib.hid (by unfold decV; rw [HD.out])
  by_cases he : e = 0
  · subst he
    by_cases hmost : most.toNat < n
    · have HR : Hid (decAll l most = ([], 0, 24)) := Lib.hid (by unfold decAll; rw [HD.out]; simp [hmost])
      by_cases h0 : 0 < most
      all_goals
        go_enter Tryd.func76, Tryd.ntmps76
        go_wp2_with fail
        refine (dec_any _ _ _ l _ r1).mono ?_
        rintro e w1 ⟨rfl, rfl⟩
        rw [HV.out]
        go_wp2_with fail
      all_goals first | (exfalso; omega) | skip
      all_goals
        go_ret3
        rw [HR.out]
        exact ⟨none, 0, rfl, own_nil _ _ _, Below.refl _ _⟩
    · have HR : Hid (decAll l most = decAllGo l n at' []) := Lib.hid (by unfold decAll; rw [HD.out]; simp; omega)
      by_cases h0 : 0 < most
      all_goals
        go_enter Tryd.func76, Tryd.ntmps76
        go_wp2_with fail
        refine (dec_any _ _ _ l _ r1).mono ?_
        rintro e w1 ⟨rfl, rfl⟩
        rw [HV.out]
        go_wp2_with fail
      all_goals first | (exfalso; omega) | skip
      · go_loopw [8, 10, 29] (fun atv usv iv wr => ∃ (k p : Nat) (us : List UInt64) (a : Option Addr) (cap : Nat), iv = .int .u64 (k : Int) ∧ k ≤ n ∧ atv = .int .i64 (p : Int) ∧ p ≤ n1 ∧ us.length ≤ p ∧ us.length ≤ k ∧ usv = .slice a us.length cap ∧
          wr.ownsRow w.heap.size 99 1 (.slice a us.length cap) us.length (us.map U) ∧ Hid (decAllGo l n at' [] = decAllGo l (n - k) p us) ∧ Below w.heap.size w wr) (fun _ _ iv _ => n - (intOf iv).toNat)
        case atStart => exact ⟨0, at', [], none, 0, rfl, Nat.zero_le _, rfl, d3, Nat.zero_le _, Nat.zero_le _, rfl, own_nil _ _ _, Lib.hid (by simp), Below.refl _ _⟩
        case round =>
          obtain ⟨k, p, us, a, cap, rfl, hk, rfl, hp, hup, huk, rfl, hown, HT, hb⟩ := hrel
          by_cases hlt : k < n
          · obtain ⟨a', hcut, r2⟩ := cut_from slB (r1.below hb) p hp
            rw [Nat.mul_one, ← List.map_drop] at r2
            obtain ⟨g1, g2, g3, g4⟩ := dec_bd (l.drop p)
            have gpos := dec_pos (l.drop p)
            obtain ⟨y, hy⟩ : ∃ y, dec (l.drop p) = y := ⟨_, rfl⟩
            obtain ⟨u, q, e⟩ := y
            have HY := Lib.hid hy
            rw [hy] at g1 g2 g3 g4 gpos
            simp only [List.length_drop] at g1 g2 g3 g4 gpos
            have g3' : p + q ≤ n1 := by have := H1.out; omega
            clear hy g3
            have g1' : u < 2 ^ 64 := by omega
            clear g1
            have HW : Hid (decV (l.drop p) = .tuple #[.int .u64 (u : Int), .int .i64 (q : Int), .int .i64 (e : Int)]) := Lib.hid (by unfold decV; rw [HY.out])
            obtain ⟨j, hj⟩ : ∃ j, n - k = j + 1 := ⟨n - k - 1, by omega⟩
            have HJ := Lib.hid hj; clear hj
            by_cases he : e = 0
            · subst he
              have gp := gpos rfl
              clear gpos
              have HS : Hid (decAllGo l n at' [] = decAllGo l (n - (k + 1)) (p + q) (us ++ [UInt64.ofNat u])) := Lib.hid (by
                have := HT.out
                rw [HJ.out, decAllGo, HY.out] at this
                simp only [ne_eq, not_true, if_false] at this
                rw [show n - (k + 1) = j by have := HJ.out; omega]
                exact this)
              have hsz := hb.size
              have hus : us.length + 1 ≤ n1 := by omega
              go_wp2_with fail
              refine (dec_any _ _ _ (l.drop p) _ r2).mono ?_
              rintro e w2 ⟨rfl, rfl⟩
              rw [HW.out]
              go_wp2_with (at_builtin; refine wpList_app1 rfl _ _ 98 rfl slU rfl hown rfl rfl (one1 _ _) (by omega) (by omega) fun a3 cap3 w3 hown3 hg3 => ?_)
              go_roundw
              case rel =>
                refine ⟨k + 1, p + q, us ++ [UInt64.ofNat u], a3, cap3, by go_num, by omega, vint (by omega), by omega, by simp; omega, by simp; omega, by simp, ?_, HS, hb.grown hg3 hsz (own_block hown)⟩
                have : (u : Int) = ((UInt64.ofNat u).toNat : Int) := by simp only [UInt64.toNat_ofNat']; omega
                rw [this] at hown3
                simpa [U] using hown3
              case measure => first | (simp [intOf]; omega) | simp [intOf]
            · have he' : ((e : Int) != 0) = true := by rw [bne_iff_ne]; omega
              have HS : Hid (decAllGo l n at' [] = ([], 0, e)) := Lib.hid (by
                have := HT.out
                rw [HJ.out, decAllGo, HY.out] at this
                simp only [ne_eq, he, not_false_eq_true, if_true] at this
                exact this)
              clear he gpos
              go_wp2_with fail
              refine (dec_any _ _ _ (l.drop p) _ r2).mono ?_
              rintro e w2 ⟨rfl, rfl⟩
              rw [HW.out]
              go_wp2_with fail
              go_ret3
              rw [HR.out, HS.out]
              exact ⟨none, 0, rfl, World.ownsRow_nil _ _ _ _, hb⟩
          · obtain rfl : k = n := by omega
            go_wp2_with fail
            go_ret3
            rw [HR.out, HT.out, Nat.sub_self, decAllGo]
            exact ⟨a, cap, rfl, hown, hb⟩
      · obtain rfl : n = 0 := by omega
        go_loopw [8, 10, 29] (fun atv usv iv wr => iv = .int .u64 0 ∧ atv = .int .i64 (at' : Int) ∧ usv = .slice none 0 0 ∧ w = wr) (fun _ _ _ _ => 0)
        case atStart => exact ⟨rfl, rfl, rfl, rfl⟩
        case round =>
          obtain ⟨rfl, rfl, rfl, rfl⟩ := hrel
          go_wp2_with fail
          go_ret3
          rw [HR.out, decAllGo]
          exact ⟨none, 0, rfl, own_nil _ _ _, Below.refl _ _⟩
  · have HR : Hid (decAll l most = ([], 0, e)) := Lib.hid (by unfold decAll; rw [HD.out]; simp [he])
    have he' : ((e : Int) != 0) = true := by rw [bne_iff_ne]; omega
    clear he
    go_enter Tryd.func76, Tryd.ntmps76
    go_wp2_with fail
    refine (dec_any _ _ _ l _ r1).mono ?_
    rintro e w1 ⟨rfl, rfl⟩
    rw [HV.out]
    go_wp2_with fail
    go_ret3
    rw [HR.out]
    exact ⟨none, 0, rfl, own_nil _ _ _, Below.refl _ _⟩

set_option maxHeartbeats 400000 in
theorem rdecAll_any (a1 : Option Addr) (n1 c1 : Nat) (l : List UInt8) (most : Int) (w : World) (hlen : n1 * 8 ≤ 140737488355328 ∨ most ≤ 1048576) (r1 : RowAt w a1 n1 c1 1 (l.map B)) (hm1 : -9223372036854775808 ≤ most) (hm2 : most ≤ 9223372036854775807) :
    Calls Tryd.prog 70 #[.slice a1 n1 c1, .int .i64 most] w (GivesN 99 w (decAll l most)) := by
  have e1 : l.length = n1 := by simpa using r1.len
  have m1 := r1.2.2.1
  have m2 := r1.2.1
  unfold maxLen at m1
  have d3 : (dec l).2.1 ≤ n1 := by have := dec_bd l; omega
  have H1 := Lib.hid e1; clear e1
  obtain ⟨d1, d2, _, d4⟩ := dec_bd l
  obtain ⟨x, hx⟩ : ∃ x, dec l = x := ⟨_, rfl⟩
  obtain ⟨n, at', e⟩ := x
  have HD := Lib.hid hx
  rw [hx] at d1 d2 d3 d4
  simp only at d1 d2 d3 d4
  clear hx
  have d1' : n < 2 ^ 64 := by omega
  clear d1
  have HV : Hid (decV l = .tuple #[.int .u64 (n : Int), .int .i64 (at' : Int), .int .i64 (e : Int)]) := Lib.hid (by unfold decV; rw [HD.out])
  by_cases he : e = 0
  · subst he
    by_cases hmost : most.toNat < n
    · have HR : Hid (decAll l most = ([], 0, 24)) := Lib.hid (by unfold decAll; rw [HD.out]; simp [hmost])
      by_cases h0 : most < 0
      all_goals
        go_enter Tryd.func70, Tryd.ntmps70
        go_wp2_with fail
        refine (rdec_any _ _ _ l _ r1).mono ?_
        rintro e w1 ⟨rfl, rfl⟩
        rw [HV.out]
        go_wp2_with fail
      all_goals first | (exfalso; omega) | skip
      all_goals
        go_ret3
        rw [HR.out]
        exact ⟨none, 0, rfl, own_nil _ _ _, Below.refl _ _⟩
    · have HR : Hid (decAll l most = decAllGo l n at' []) := Lib.hid (by unfold decAll; rw [HD.out]; simp; omega)
      by_cases h0 : most < 0
      all_goals
        go_enter Tryd.func70, Tryd.ntmps70
        go_wp2_with fail
        refine (rdec_any _ _ _ l _ r1).mono ?_
        rintro e w1 ⟨rfl, rfl⟩
        rw [HV.out]
        go_wp2_with fail
      all_goals first | (exfalso; omega) | skip
      · obtain rfl : n = 0 := by omega
        go_loopw [8, 10] (fun atv usv wr => atv = .int .i64 (at' : Int) ∧ usv = .slice (some ⟨w.heap.size, 0, none⟩) 0 0 ∧ wr = w.alloc (.cells #[] 99)) (fun _ _ _ => 0)
        case atStart => exact ⟨rfl, rfl, rfl⟩
        case round =>
          obtain ⟨rfl, rfl, rfl⟩ := hrel
          go_wp2_with fail
          go_ret3
          rw [HR.out, decAllGo]
          exact ⟨_, _, rfl, own_lit w [] 0 1 _ rfl (by decide), below_made _ _⟩
      · have hown0 := own_lit w [] 0 1 99 rfl (by decide)
        go_loopw [8, 10] (fun atv usv wr => ∃ (p : Nat) (us : List UInt64) (a : Option Addr) (cap : Nat), us.length ≤ n ∧ atv = .int .i64 (p : Int) ∧ p ≤ n1 ∧ us.length ≤ p ∧ usv = .slice a us.length cap ∧
          wr.ownsRow w.heap.size 99 1 (.slice a us.length cap) us.length (us.map U) ∧ Hid (decAllGo l n at' [] = decAllGo l (n - us.length) p us) ∧ Below w.heap.size w wr) (fun _ usv _ => n - lenV usv)
        case atStart => exact ⟨at', [], _, 0, Nat.zero_le _, rfl, d3, Nat.zero_le _, rfl, hown0, Lib.hid (by simp), below_made _ _⟩
        case round =>
          clear hown0
          obtain ⟨p, us, a, cap, hk, rfl, hp, hup, rfl, hown, HT, hb⟩ := hrel
          by_cases hlt : us.length < n
          · obtain ⟨a', hcut, r2⟩ := cut_from slB (r1.below hb) p hp
            rw [Nat.mul_one, ← List.map_drop] at r2
            obtain ⟨g1, g2, g3, g4⟩ := dec_bd (l.drop p)
            have gpos := dec_pos (l.drop p)
            obtain ⟨y, hy⟩ : ∃ y, dec (l.drop p) = y := ⟨_, rfl⟩
            obtain ⟨u, q, e⟩ := y
            have HY := Lib.hid hy
            rw [hy] at g1 g2 g3 g4 gpos
            simp only [List.length_drop] at g1 g2 g3 g4 gpos
            have g3' : p + q ≤ n1 := by have := H1.out; omega
            clear hy g3
            have g1' : u < 2 ^ 64 := by omega
            clear g1
            have HW : Hid (decV (l.drop p) = .tuple #[.int .u64 (u : Int), .int .i64 (q : Int), .int .i64 (e : Int)]) := Lib.hid (by unfold decV; rw [HY.out])
            obtain ⟨j, hj⟩ : ∃ j, n - us.length = j + 1 := ⟨n - us.length - 1, by omega⟩
            have HJ := Lib.hid hj; clear hj
            by_cases he : e = 0
            · subst he
              have gp := gpos rfl
              clear gpos
              have HS : Hid (decAllGo l n at' [] = decAllGo l (n - (us.length + 1)) (p + q) (us ++ [UInt64.ofNat u])) := Lib.hid (by
                have := HT.out
                rw [HJ.out, decAllGo, HY.out] at this
                simp only [ne_eq, not_true, if_false] at this
                rw [show n - (us.length + 1) = j by have := HJ.out; omega]
                exact this)
              have hsz := hb.size
              have hus : us.length + 1 ≤ n1 := by omega
              go_wp2_with fail
              refine (rdec_any _ _ _ (l.drop p) _ r2).mono ?_
              rintro e w2 ⟨rfl, rfl⟩
              rw [HW.out]
              go_wp2_with (at_builtin; refine wpList_app1 rfl _ _ 98 rfl slU rfl hown rfl rfl (one1 _ _) (by omega) (by omega) fun a3 cap3 w3 hown3 hg3 => ?_)
              go_roundw
              case rel =>
                refine ⟨p + q, us ++ [UInt64.ofNat u], a3, cap3, by simp; omega, vint (by omega), by omega, by simp; omega, by simp, ?_, by rw [List.length_append]; exact HS, hb.grown hg3 hsz (own_block hown)⟩
                have : (u : Int) = ((UInt64.ofNat u).toNat : Int) := by simp only [UInt64.toNat_ofNat']; omega
                rw [this] at hown3
                simpa [U] using hown3
              case measure => first | (simp [lenV]; omega) | simp [lenV]
            · have he' : ((e : Int) != 0) = true := by rw [bne_iff_ne]; omega
              have HS : Hid (decAllGo l n at' [] = ([], 0, e)) := Lib.hid (by
                have := HT.out
                rw [HJ.out, decAllGo, HY.out] at this
                simp only [ne_eq, he, not_false_eq_true, if_true] at this
                exact this)
              clear he gpos
              go_wp2_with fail
              refine (rdec_any _ _ _ (l.drop p) _ r2).mono ?_
              rintro e w2 ⟨rfl, rfl⟩
              rw [HW.out]
              go_wp2_with fail
              go_ret3
              rw [HR.out, HS.out]
              exact ⟨none, 0, rfl, World.ownsRow_nil _ _ _ _, hb⟩
          · have hkn : n - us.length = 0 := by omega
            have HKN := Lib.hid hkn; clear hkn
            go_wp2_with fail
            go_ret3
            rw [HR.out, HT.out, HKN.out, decAllGo]
            exact ⟨a, cap, rfl, hown, hb⟩
  · have HR : Hid (decAll l most = ([], 0, e)) := Lib.hid (by unfold decAll; rw [HD.out]; simp [he])
    have he' : ((e : Int) != 0) = true := by rw [bne_iff_ne]; omega
    clear he
    go_enter Tryd.func70, Tryd.ntmps70
    go_wp2_with fail
    refine (rdec_any _ _ _ l _ r1).mono ?_
    rintro e w1 ⟨rfl, rfl⟩
    rw [HV.out]
    go_wp2_with fail
    go_ret3
    rw [HR.out]
    exact ⟨none, 0, rfl, own_nil _ _ _, Below.refl _ _⟩
end Go.Proofs.YtffhejaeliphcaaDoor
