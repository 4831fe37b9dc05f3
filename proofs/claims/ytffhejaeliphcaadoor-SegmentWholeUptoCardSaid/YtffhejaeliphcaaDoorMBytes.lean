/-
  The walks of the reference's Same and Copy: whether two slices of bytes read alike; a copy in new memory. No condition beyond that the arguments read as bytes.
-/
import Derived.Test.YtffhejaeliphcaaDoorRows
import Derived.Test.YtffhejaeliphcaaDoorMBase
import Derived.WalkSpells
import Derived.Lib.Hide
import Derived.BigQuiet
import Derived.Deep.QuietTactic
namespace Go.Proofs.YtffhejaeliphcaaDoor
open Go.RowKit
set_option linter.unusedVariables false

theorem slB : SlTy Tryd.prog 22 5 1 1 (.int .u8 0) := slTy_mk Tryd.underlying22 (by kernel_rfl) rfl (by decide) (by decide)

theorem same_step {l m : List UInt8} {k : Nat} {c d : UInt8} (hc : l[k]? = some c) (hd : m[k]? = some d) (h : l.take k = m.take k) (hcd : c = d) : l.take (k + 1) = m.take (k + 1) := by
  rw [List.take_add_one, List.take_add_one, hc, hd, h, hcd]

theorem take_ne {l m : List UInt8} {k : Nat} {c d : UInt8} (hc : l[k]? = some c) (hd : m[k]? = some d) (hcd : c ≠ d) : (l == m) = false := by
  rw [beq_eq_false_iff_ne]; rintro rfl; rw [hc] at hd; exact hcd (Option.some.inj hd)

set_option maxHeartbeats 400000 in
theorem same_any (a1 : Option Addr) (n1 c1 : Nat) (l1 : List UInt8) (a2 : Option Addr) (n2 c2 : Nat) (l2 : List UInt8) (w : World) (r1 : RowAt w a1 n1 c1 1 (l1.map B)) (r2 : RowAt w a2 n2 c2 1 (l2.map B)) :
    Calls Tryd.prog 15 #[.slice a1 n1 c1, .slice a2 n2 c2] w fun e w' => e = .returned (.bool (l1 == l2)) ∧ Still w w' := by
  have e1 : l1.length = n1 := by simpa using r1.len
  have e2 : l2.length = n2 := by simpa using r2.len
  have m1 := r1.2.2.1
  have m2 := r1.2.1
  unfold maxLen at m1
  by_cases hn : n1 = n2
  · subst hn
    go_enter Tryd.func15, Tryd.ntmps15
    have H2 := Lib.hid e2; clear e2
    have H1 := Lib.hid e1; clear e1
    go_wp2
    go_loopw [13] (fun iv wr => ∃ k : Nat, iv = .int .i64 (k : Int) ∧ k ≤ n1 ∧ l1.take k = l2.take k ∧ Still w wr) (fun iv _ => n1 - (intOf iv).toNat)
    case atStart => exact ⟨0, rfl, Nat.zero_le _, rfl, Still.refl _⟩
    case round =>
      obtain ⟨k, rfl, hk, ht, q, rfl⟩ := hrel
      have HT := Lib.hid ht; clear ht
      by_cases hlt : k < n1
      · obtain ⟨b1, o1, x1, rfl, hx1, hc1⟩ := r1.byte k hlt
        obtain ⟨b2, o2, x2, rfl, hx2, hc2⟩ := r2.byte k hlt
        have HX1 := Lib.hid hx1; clear hx1
        have HX2 := Lib.hid hx2; clear hx2
        have hlt' : (k : Int) < (n1 : Int) := by omega
        by_cases hcd : x1 = x2
        · have hb : ((x1.toNat : Int) != (x2.toNat : Int)) = false := by simp [hcd]
          go_wp2
          go_quiet (fail)
          go_wp2
          go_roundw
          case rel => exact ⟨k + 1, by go_num, by omega, same_step HX1.out HX2.out HT.out hcd, Still.one _ _⟩
          case measure => simp [intOf]; omega
        · have hb : ((x1.toNat : Int) != (x2.toNat : Int)) = true := by
            rw [bne_iff_ne]; intro h; exact hcd (UInt8.toNat_inj.1 (by omega))
          go_wp2
          go_quiet (fail)
          go_wp2
          go_ret
          exact ⟨ret_bool (take_ne HX1.out HX2.out hcd).symm, Still.two _ _ _⟩
      · go_wp2
        go_ret
        refine ⟨ret_bool ?_, Still.one _ _⟩
        have ht := HT.out
        rw [List.take_of_length_le (by have := H1.out; omega), List.take_of_length_le (by have := H2.out; omega)] at ht
        rw [ht]; simp
  · have hb : ((n1 : Int) != (n2 : Int)) = true := by rw [bne_iff_ne]; omega
    go_enter Tryd.func15, Tryd.ntmps15
    have H2 := Lib.hid e2; clear e2
    have H1 := Lib.hid e1; clear e1
    go_wp2
    go_ret
    refine ⟨ret_bool ?_, Still.refl _⟩
    symm
    rw [beq_eq_false_iff_ne]
    rintro rfl
    exact hn (H1.out.symm.trans H2.out)

theorem copy_set {l : List UInt8} {k n : Nat} {c : UInt8} (hc : l[k]? = some c) (hk : k < n) :
    (((l.take k).map B ++ List.replicate (n - k) (Value.int .u8 0)).set k (Value.int .u8 (c.toNat : Int))) = (l.take (k + 1)).map B ++ List.replicate (n - (k + 1)) (Value.int .u8 0) := by
  have hkl : k < l.length := (List.getElem?_eq_some_iff.1 hc).1
  have e : ((l.take k).map B).length = k := by simp; omega
  rw [List.set_append_right _ _ (by omega), e, Nat.sub_self]
  obtain ⟨j, hj⟩ : ∃ j, n - k = j + 1 := ⟨n - k - 1, by omega⟩
  rw [hj, List.replicate_succ, List.set_cons_zero, List.take_add_one, hc, show n - (k + 1) = j by omega]
  simp [B]

set_option maxHeartbeats 400000 in
theorem copy_any (a1 : Option Addr) (n1 c1 : Nat) (l : List UInt8) (w : World) (hn : n1 ≤ 281474976710656) (r1 : RowAt w a1 n1 c1 1 (l.map B)) :
    Calls Tryd.prog 10 #[.slice a1 n1 c1] w (GivesB 5 w l) := by
  have e1 : l.length = n1 := by simpa using r1.len
  have H1 := Lib.hid e1; clear e1
  go_enter Tryd.func10, Tryd.ntmps10
  go_wp2_with (at_make; refine wpList_mkn rfl _ _ 22 rfl slB rfl w.heap.size _ _ _ _ n1 rfl rfl rfl rfl (by omega) (by unfold maxLen; omega) (Nat.le_refl _) fun w1 hown hg => ?_)
  have hb1 : Below w.heap.size w w1 := (Below.refl _ _).grown hg (Nat.le_refl _) (fun k hk => by cases hk)
  go_loopw [4, 10] (fun _ iv wr => ∃ k : Nat, iv = .int .i64 (k : Int) ∧ k ≤ n1 ∧ wr.ownsRow w.heap.size 5 1 (.slice (some ⟨w.heap.size, 0, none⟩) n1 n1) n1 ((l.take k).map B ++ List.replicate (n1 - k) (.int .u8 0)) ∧ Below w.heap.size w wr) (fun _ iv _ => n1 - (intOf iv).toNat)
  case atStart => exact ⟨0, rfl, Nat.zero_le _, by simpa using hown, hb1⟩
  case round =>
    obtain ⟨k, rfl, hk, ho, hb⟩ := hrel
    clear hown hg hb1
    by_cases hlt : k < n1
    · obtain ⟨b1, o1, x1, rfl, hx1, hc1⟩ := (r1.below hb).byte k hlt
      have HX1 := Lib.hid hx1; clear hx1
      have hc2 : wr.cell? ⟨w.heap.size, k, none⟩ = some (.int .u8 0) := by
        rw [ho.cellAt k (by omega)]
        have : ((l.take k).map B).length = k := by have := H1.out; simp; omega
        rw [List.getElem?_append_right (by omega), this, Nat.sub_self, List.getElem?_replicate, if_pos (by omega)]
      have hf2 : wr.frozen? ⟨w.heap.size, k, none⟩ = false := ho.frozenAt k
      have hst := (ho.stored k (.int .u8 (x1.toNat : Int))).1
      rw [copy_set HX1.out hlt] at hst
      have hb2 := hb.setCell (p := ⟨w.heap.size, k, none⟩) (Nat.le_refl _) (.int .u8 (x1.toNat : Int))
      go_wp2
      go_roundw
      case rel => exact ⟨k + 1, by go_num, by omega, hst, hb2⟩
      case measure => simp [intOf]; omega
    · go_wp2
      go_ret
      obtain rfl : k = n1 := by omega
      have hl := H1.out
      rw [Nat.sub_self, List.replicate_zero, List.append_nil, List.take_of_length_le (by omega)] at ho
      exact ⟨_, _, by rw [hl]; rfl, by rw [hl]; exact ho, hb⟩
end Go.Proofs.YtffhejaeliphcaaDoor
