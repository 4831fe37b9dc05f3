/-
  Two arrays of four bytes held against each other. No condition but the program's own type numbers.
  The walks of step, Update, Sum, Four and of the reference's Take, Update, Sum, Four. Condition: the program's table of nibbles holds what its text lays.
  Plain facts on closed bytes. No condition.
-/
import Derived.Test.YtffhejaeliphcaaDoorMBytes
import Derived.Test.YtffhejaeliphcaaDoorMCc
import Derived.WalkSpells
import Derived.Lib.SlBytesConst
import Derived.Deep.RegionWith
namespace Go.Proofs.YtffhejaeliphcaaDoor
open Go.RowKit
set_option linter.unusedVariables false

theorem eq4 (a b c d a' b' c' d' : Int) (wx : World) :
    (Op.equalIn 10000 132 (.agg #[.int .u8 a, .int .u8 b, .int .u8 c, .int .u8 d]) (.agg #[.int .u8 a', .int .u8 b', .int .u8 c', .int .u8 d'])).run Tryd.prog wx =
      .ok (a == a' && (b == b' && (c == c' && d == d'))) wx := by
  have hn : ((Tryd.prog.info? 5).map (·.size)) = some 1 := by kernel_rfl
  obtain ⟨i, hi, hs⟩ := Option.map_eq_some_iff.1 hn
  have e1 : ∀ (x y : Int) (wy : World), (Op.equalIn 9999 5 (.int .u8 x) (.int .u8 y)).run Tryd.prog wy = .ok (x == y) wy := fun x y wy =>
    run_equalIn_int wy 9998 5 .u8 .u8 x y Tryd.underlying5
  have hag : ∀ wy, (isAgg 5).run Tryd.prog wy = .ok false wy := fun wy => by
    simp [isAgg, run_underlying Tryd.underlying5]
  rw [Op.equalIn]
  simp [run_underlying Tryd.underlying132, sizeOf, typeInfo, hi, hs, Std.Legacy.Range.forIn_eq_forIn_range', List.range', part, hag, e1]
  by_cases h1 : a = a' <;> by_cases h2 : b = b' <;> by_cases h3 : c = c' <;> by_cases h4 : d = d' <;> simp [h1, h2, h3, h4]
end Go.Proofs.YtffhejaeliphcaaDoor

namespace Go.Proofs.YtffhejaeliphcaaDoor
open Go.RowKit
set_option linter.unusedVariables false

/-- The table of nibbles stands in memory. -/
def Tab (w : World) : Prop := ∀ j, j < 16 → w.cell? ⟨0, j, none⟩ = some (.int .u32 ((tab.getD j 0 : Nat) : Int))

theorem Tab.of_heap {w w' : World} (h : Tab w) (hb : ∀ k, k < w.heap.size → w'.heap[k]? = w.heap[k]?) : Tab w' := fun j hj => by
  have h1 := h j hj
  rw [← h1]
  exact World.cell?_of_block (hb _ (World.block_lt_of_cell? w _ h1))
theorem Tab.below {w w' : World} (h : Tab w) (hb : Below w.heap.size w w') : Tab w' := h.of_heap hb.block
theorem Tab.still {w w' : World} (h : Tab w) (hb : Still w w') : Tab w' := h.of_heap fun k _ => by rw [hb.heap]

set_option maxHeartbeats 400000 in
theorem step_any (c x : Nat) (w : World) (hc : c < 4294967296) (hx : x < 256) (ht : Tab w) :
    Calls Tryd.prog 81 #[.int .u32 (c : Int), .int .u8 (x : Int)] w fun e w' => e = .returned (.int .u32 ((take8 c x : Nat) : Int)) ∧ w = w' := by
  have hc1 : c ^^^ x < 4294967296 := Nat.xor_lt_two_pow (n := 32) hc (by omega)
  have hc2 := bitN_lt 4 _ hc1
  have hx1 : bits .xor .u32 (c : Int) (x : Int) = ((c ^^^ x : Nat) : Int) := u32_xor_nat c x hc (by omega)
  have ha1 := nib_and _ hc1
  have ha2 := nib_and _ hc2
  have hn1 := nib_xor _ hc1
  have hn2 := nib_xor _ hc2
  have ht1 := ht ((c ^^^ x) % 16) (Nat.mod_lt _ (by decide))
  have ht2 := ht (bitN 4 (c ^^^ x) % 16) (Nat.mod_lt _ (by decide))
  rw [nib2] at hn2
  unfold take8
  generalize bitN 8 (c ^^^ x) = c8 at *
  generalize bitN 4 (c ^^^ x) = c4 at *
  generalize c ^^^ x = c0 at *
  generalize htt1 : tab.getD (c0 % 16) 0 = t1 at *
  generalize htt2 : tab.getD (c4 % 16) 0 = t2 at *
  clear htt1 htt2
  have b1 : c0 % 16 < 16 := Nat.mod_lt _ (by decide)
  have b2 : c4 % 16 < 16 := Nat.mod_lt _ (by decide)
  generalize c0 % 16 = i0 at *
  generalize c4 % 16 = i4 at *
  clear ht
  go_enter Tryd.func81, Tryd.ntmps81
  go_wp2
  go_ret
  exact ⟨rfl, rfl⟩

theorem not_u32 (s : Nat) (h : s < 4294967296) : bits .xor .u32 IntKind.u32.max (s : Int) = ((4294967295 - s : Nat) : Int) := by
  rw [show IntKind.u32.max = 4294967295 from rfl]
  have := u32_xor_nat 4294967295 s (by decide) h
  rw [Nat.xor_comm, ← not_xor _ h] at this
  exact this

theorem upd_at {l : List UInt8} {k : Nat} {x : UInt8} (h : l[k]? = some x) (c : Nat) : upd c (l.take (k + 1)) = take8 (upd c (l.take k)) x.toNat := by
  rw [List.take_add_one, h]; exact upd_snoc _ _ _

set_option maxHeartbeats 400000 in
theorem update_nat (s : Nat) (a1 : Option Addr) (n1 c1 : Nat) (l : List UInt8) (w : World) (hs : s < 4294967296) (r1 : RowAt w a1 n1 c1 1 (l.map B)) (ht : Tab w) :
    Calls Tryd.prog 78 #[.int .u32 (s : Int), .slice a1 n1 c1] w fun e w' => e = .returned (.int .u32 ((sumN s l : Nat) : Int)) ∧ w = w' := by
  have e1 : l.length = n1 := by simpa using r1.len
  have H1 := Lib.hid e1; clear e1
  have m1 := r1.2.2.1
  have m2 := r1.2.1
  unfold maxLen at m1
  have hn := not_u32 s hs
  have hs' : 4294967295 - s < 4294967296 := by omega
  have HU := Lib.hid (upd_lt (l) (4294967295 - s) hs')
  unfold sumN
  generalize 4294967295 - s = s' at *
  go_enter Tryd.func78, Tryd.ntmps78
  go_wp2
  clear hn
  go_loop [5, 7, 12] (fun cv _ iv => ∃ k : Nat, iv = .int .i64 (k : Int) ∧ k ≤ n1 ∧ cv = .int .u32 ((upd s' (l.take k) : Nat) : Int)) (fun _ _ iv => n1 - (intOf iv).toNat)
  case atStart => exact ⟨0, rfl, Nat.zero_le _, rfl⟩
  case round =>
    obtain ⟨k, rfl, hk, rfl⟩ := hrel
    have hu := upd_lt (l.take k) s' hs'
    by_cases hlt : k < n1
    · obtain ⟨b1, o1, x, rfl, hx1, hc1⟩ := r1.byte k hlt
      have HX := Lib.hid (upd_at hx1 s'); clear hx1
      have hx := x.toNat_lt
      generalize upd s' (l.take k) = c at *
      go_wp2_with fail
      (with_reducible refine (step_any c x.toNat _ hu hx ht).mono ?_)
      rintro e w' ⟨rfl, rfl⟩
      go_wp2_with fail
      go_round
      case rel => exact ⟨k + 1, by go_num, by omega, by rw [HX.out]⟩
      case measure => first | (simp [intOf]; omega) | simp [intOf]
    · have HT := Lib.hid (congrArg (upd s') (List.take_of_length_le (l := l) (i := k) (by have := H1.out; omega)))
      obtain ⟨c, hc⟩ : ∃ c, upd s' (l.take k) = c := ⟨_, rfl⟩
      have HC : Hid (upd s' l = c) := Lib.hid (HT.out.symm.trans hc)
      rw [hc] at hu ⊢
      clear HT hc
      have hn := not_u32 _ hu
      go_wp2
      go_ret
      exact ⟨by rw [HC.out]; rfl, rfl⟩

theorem update_any (s : Int) (a1 : Option Addr) (n1 c1 : Nat) (l : List UInt8) (w : World) (h0 : 0 ≤ s) (hs : s < 4294967296) (r1 : RowAt w a1 n1 c1 1 (l.map B)) (ht : Tab w) :
    Calls Tryd.prog 78 #[.int .u32 s, .slice a1 n1 c1] w fun e w' => e = .returned (.int .u32 ((sumN s.toNat l : Nat) : Int)) ∧ w = w' := by
  obtain ⟨n, rfl⟩ := Int.eq_ofNat_of_zero_le h0
  exact update_nat n a1 n1 c1 l w (by omega) r1 ht

set_option maxHeartbeats 400000 in
theorem sum_any (a1 : Option Addr) (n1 c1 : Nat) (l : List UInt8) (w : World) (r1 : RowAt w a1 n1 c1 1 (l.map B)) (ht : Tab w) :
    Calls Tryd.prog 66 #[.slice a1 n1 c1] w fun e w' => e = .returned (.int .u32 ((sumN 0 l : Nat) : Int)) ∧ w = w' := by
  go_enter Tryd.func66, Tryd.ntmps66
  go_wp2_with fail
  (with_reducible refine (update_any 0 _ _ _ l _ (by decide) (by decide) r1 ht).mono ?_)
  rintro e w' ⟨rfl, rfl⟩
  go_wp2_with fail
  go_ret
  exact ⟨rfl, rfl⟩

theorem four_cells (s : Nat) (h : s < 4294967296) : (four s).map B = [.int .u8 ((s : Int) % 256), .int .u8 ((s : Int) / 256 % 256), .int .u8 ((s : Int) / 65536 % 256), .int .u8 ((s : Int) / 16777216)] := by
  have e1 : (((UInt8.ofNat s).toNat : Nat) : Int) = (s : Int) % 256 := by simp only [UInt8.toNat_ofNat']; omega
  have e2 : (((UInt8.ofNat (s / 256)).toNat : Nat) : Int) = (s : Int) / 256 % 256 := by simp only [UInt8.toNat_ofNat']; omega
  have e3 : (((UInt8.ofNat (s / 65536)).toNat : Nat) : Int) = (s : Int) / 65536 % 256 := by simp only [UInt8.toNat_ofNat']; omega
  have e4 : (((UInt8.ofNat (s / 16777216)).toNat : Nat) : Int) = (s : Int) / 16777216 := by simp only [UInt8.toNat_ofNat']; omega
  simp only [four, List.map_cons, List.map_nil, B, e1, e2, e3, e4]

theorem gives_four (s : Nat) (w : World) (h : s < 4294967296) :
    GivesB 5 w (four s) (.returned (.slice (some ⟨w.heap.size, 0, none⟩) 4 4)) (w.alloc (.cells #[.int .u8 ((s : Int) % 256), .int .u8 ((s : Int) / 256 % 256), .int .u8 ((s : Int) / 65536 % 256), .int .u8 ((s : Int) / 16777216)] 5)) := by
  refine ⟨_, _, rfl, ?_, below_made _ _⟩
  rw [four_cells s h]
  exact own_lit w [_, _, _, _] 4 1 _ rfl (by decide)

set_option maxHeartbeats 400000 in
theorem four_any (s : Nat) (w : World) (hs : s < 4294967296) :
    Calls Tryd.prog 65 #[.int .u32 (s : Int)] w (GivesB 5 w (four s)) := by
  go_enter Tryd.func65, Tryd.ntmps65
  go_wp2
  go_ret
  exact gives_four s w hs

set_option maxHeartbeats 400000 in
theorem four_lit (s : Nat) (w : World) (hs : s < 4294967296) :
    Calls Tryd.prog 65 #[.int .u32 (s : Int)] w fun e w' => e = .returned (.slice (some ⟨w.heap.size, 0, none⟩) 4 4) ∧
      w.alloc (.cells #[.int .u8 ((s : Int) % 256), .int .u8 ((s : Int) / 256 % 256), .int .u8 ((s : Int) / 65536 % 256), .int .u8 ((s : Int) / 16777216)] 5) = w' := by
  go_enter Tryd.func65, Tryd.ntmps65
  go_wp2
  go_ret
  exact ⟨rfl, rfl⟩

set_option maxHeartbeats 400000 in
theorem rfour_any (s : Nat) (w : World) (hs : s < 4294967296) :
    Calls Tryd.prog 54 #[.int .u32 (s : Int)] w (GivesB 5 w (four s)) := by
  go_enter Tryd.func54, Tryd.ntmps54
  go_wp2
  go_ret
  exact gives_four s w hs

set_option maxHeartbeats 400000 in
theorem rtake_any (c x : Nat) (w : World) (hc : c < 4294967296) (hx : x < 256) :
    Calls Tryd.prog 80 #[.int .u32 (c : Int), .int .u8 (x : Int)] w fun e w' => e = .returned (.int .u32 ((take8 c x : Nat) : Int)) ∧ w = w' := by
  have hc1 : c ^^^ x < 4294967296 := Nat.xor_lt_two_pow (n := 32) hc (by omega)
  have hx1 : bits .xor .u32 (c : Int) (x : Int) = ((c ^^^ x : Nat) : Int) := u32_xor_nat c x hc (by omega)
  unfold take8
  generalize c ^^^ x = c0 at *
  go_enter Tryd.func80, Tryd.ntmps80
  go_wp2
  clear hx1
  go_loop [0, 5, 6] (fun cv iv _ => ∃ (k d : Nat), iv = .int .i64 (k : Int) ∧ k ≤ 8 ∧ cv = .int .u32 (d : Int) ∧ d < 4294967296 ∧ Hid (bitN 8 c0 = bitN (8 - k) d)) (fun _ iv _ => 8 - (intOf iv).toNat)
  case atStart => exact ⟨0, c0, rfl, Nat.zero_le _, rfl, hc1, Lib.hid rfl⟩
  case round =>
    obtain ⟨k, d, rfl, hk, rfl, hd, HT⟩ := hrel
    obtain ⟨f1, f2⟩ := ref_bit d hd
    have hlt := bit1_lt d hd
    by_cases hlt8 : k < 8
    · have HN : Hid (bitN 8 c0 = bitN (8 - (k + 1)) (bit1 d)) := Lib.hid (by rw [HT.out, show 8 - k = (8 - (k + 1)) + 1 by omega]; rfl)
      generalize bit1 d = d1 at *
      by_cases h1 : d % 2 = 1
      · have b1 : ((d : Int) % 2 == 1) = true := by rw [beq_iff_eq]; omega
        have f := f1 h1
        clear f1 f2 h1
        go_wp2
        go_round
        case rel => exact ⟨k + 1, d1, by go_num, by omega, rfl, hlt, HN⟩
        case measure => first | (simp [intOf]; omega) | simp [intOf]
      · have b1 : ((d : Int) % 2 == 1) = false := by rw [beq_eq_false_iff_ne]; omega
        have f := f2 h1
        have F := Lib.hid f
        clear f1 f2 h1 f
        go_wp2
        go_round
        case rel => exact ⟨k + 1, d1, by go_num, by omega, vint F.out, hlt, HN⟩
        case measure => first | (simp [intOf]; omega) | simp [intOf]
    · obtain rfl : k = 8 := by omega
      clear f1 f2
      go_wp2
      go_ret
      exact ⟨ret_int (by have := HT.out; rw [Nat.sub_self] at this; rw [this]; rfl), rfl⟩

set_option maxHeartbeats 400000 in
theorem rupdate_nat (s : Nat) (a1 : Option Addr) (n1 c1 : Nat) (l : List UInt8) (w : World) (hs : s < 4294967296) (r1 : RowAt w a1 n1 c1 1 (l.map B)) :
    Calls Tryd.prog 73 #[.int .u32 (s : Int), .slice a1 n1 c1] w fun e w' => e = .returned (.int .u32 ((sumN s l : Nat) : Int)) ∧ w = w' := by
  have e1 : l.length = n1 := by simpa using r1.len
  have H1 := Lib.hid e1; clear e1
  have m1 := r1.2.2.1
  have m2 := r1.2.1
  unfold maxLen at m1
  have hs' : 4294967295 - s < 4294967296 := by omega
  have HS : Hid ((4294967295 : Int) - (s : Int) = ((4294967295 - s : Nat) : Int)) := Lib.hid (by omega)
  unfold sumN
  generalize 4294967295 - s = s' at *
  go_enter Tryd.func73, Tryd.ntmps73
  go_wp2
  go_loop [5, 6] (fun cv iv => ∃ k : Nat, iv = .int .i64 (k : Int) ∧ k ≤ n1 ∧ cv = .int .u32 ((upd s' (l.take k) : Nat) : Int)) (fun _ iv => n1 - (intOf iv).toNat)
  case atStart => exact ⟨0, rfl, Nat.zero_le _, vint HS.out⟩
  case round =>
    obtain ⟨k, rfl, hk, rfl⟩ := hrel
    have hu := upd_lt (l.take k) s' hs'
    by_cases hlt : k < n1
    · obtain ⟨b1, o1, x, rfl, hx1, hc1⟩ := r1.byte k hlt
      have HX := Lib.hid (upd_at hx1 s'); clear hx1
      have hx := x.toNat_lt
      generalize upd s' (l.take k) = c at *
      go_wp2_with fail
      (with_reducible refine (rtake_any c x.toNat _ hu hx).mono ?_)
      rintro e w' ⟨rfl, rfl⟩
      go_wp2_with fail
      go_round
      case rel => exact ⟨k + 1, by go_num, by omega, by rw [HX.out]⟩
      case measure => first | (simp [intOf]; omega) | simp [intOf]
    · have HT := Lib.hid (congrArg (upd s') (List.take_of_length_le (l := l) (i := k) (by have := H1.out; omega)))
      obtain ⟨c, hc⟩ : ∃ c, upd s' (l.take k) = c := ⟨_, rfl⟩
      have HC : Hid (upd s' l = c) := Lib.hid (HT.out.symm.trans hc)
      rw [hc] at hu ⊢
      clear HT hc
      go_wp2
      go_ret
      exact ⟨ret_int (by rw [HC.out]; omega), rfl⟩

theorem rupdate_any (s : Int) (a1 : Option Addr) (n1 c1 : Nat) (l : List UInt8) (w : World) (h0 : 0 ≤ s) (hs : s < 4294967296) (r1 : RowAt w a1 n1 c1 1 (l.map B)) :
    Calls Tryd.prog 73 #[.int .u32 s, .slice a1 n1 c1] w fun e w' => e = .returned (.int .u32 ((sumN s.toNat l : Nat) : Int)) ∧ w = w' := by
  obtain ⟨n, rfl⟩ := Int.eq_ofNat_of_zero_le h0
  exact rupdate_nat n a1 n1 c1 l w (by omega) r1

set_option maxHeartbeats 400000 in
theorem rsum_any (a1 : Option Addr) (n1 c1 : Nat) (l : List UInt8) (w : World) (r1 : RowAt w a1 n1 c1 1 (l.map B)) :
    Calls Tryd.prog 55 #[.slice a1 n1 c1] w fun e w' => e = .returned (.int .u32 ((sumN 0 l : Nat) : Int)) ∧ w = w' := by
  go_enter Tryd.func55, Tryd.ntmps55
  go_wp2_with fail
  (with_reducible refine (rupdate_any 0 _ _ _ l _ (by decide) (by decide) r1).mono ?_)
  rintro e w' ⟨rfl, rfl⟩
  go_wp2_with fail
  go_ret
  exact ⟨rfl, rfl⟩

theorem list4 {l : List UInt8} {a b c d : UInt8} (hl : l.length = 4) (h0 : l[0]? = some a) (h1 : l[1]? = some b) (h2 : l[2]? = some c) (h3 : l[3]? = some d) : l = [a, b, c, d] := by
  match l, hl with
  | [x, y, z, t], _ => simp at h0 h1 h2 h3; simp [h0, h1, h2, h3]

theorem four_beq (s : Nat) (x0 x1 x2 x3 : UInt8) (h : s < 4294967296) : (four s == [x0, x1, x2, x3]) =
    (((x0.toNat : Int) == (s : Int) % 256) && (((x1.toNat : Int) == (s : Int) / 256 % 256) && (((x2.toNat : Int) == (s : Int) / 65536 % 256) && ((x3.toNat : Int) == (s : Int) / 16777216)))) := by
  have h0 := x0.toNat_lt
  have h1 := x1.toNat_lt
  have h2 := x2.toNat_lt
  have h3 := x3.toNat_lt
  rw [Bool.eq_iff_iff]
  simp only [four, beq_iff_eq, List.cons.injEq, and_true, Bool.and_eq_true, ← UInt8.toNat_inj, UInt8.toNat_ofNat']
  omega

set_option maxHeartbeats 400000 in
theorem closed_any (a1 : Option Addr) (n1 c1 : Nat) (l : List UInt8) (w : World) (r1 : RowAt w a1 n1 c1 1 (l.map B)) (ht : Tab w) (h4 : 4 ≤ n1) :
    Calls Tryd.prog 62 #[.slice a1 n1 c1] w fun e w' => e = .returned (.bool (four (sumN 0 (l.take (n1 - 4))) == l.drop (n1 - 4))) ∧ Below w.heap.size w w' := by
  have m1 := r1.2.2.1
  have m2 := r1.2.1
  unfold maxLen at m1
  obtain ⟨m, hm⟩ : ∃ m, n1 = m + 4 := ⟨n1 - 4, by omega⟩
  subst hm
  rw [Nat.add_sub_cancel]
  have hcut := fun wx => run_cut0 (a := a1) (n := m + 4) (cap := c1) slB wx m (by omega)
  obtain ⟨a2, hcut2, r2⟩ := cut_from slB r1 m (by omega)
  rw [Nat.mul_one, ← List.map_drop, Nat.add_sub_cancel_left] at r2
  rw [Nat.add_sub_cancel_left] at hcut2
  go_enter Tryd.func62, Tryd.ntmps62
  go_wp2_with fail
  (with_reducible refine (sum_any _ _ _ (l.take m) _ (rowB_upto r1 (by omega)) ht).mono ?_)
  rintro e w' ⟨rfl, rfl⟩
  have hsl := sumN_lt 0 (l.take m)
  obtain ⟨s, hs⟩ : ∃ s, sumN 0 (l.take m) = s := ⟨_, rfl⟩
  rw [hs] at hsl ⊢
  have HSM := Lib.hid hs; clear hs
  obtain ⟨b0, o0, x0, ha, hx0, hc0⟩ := r2.byte 0 (by omega)
  obtain ⟨b1, o1, x1, ha1, hx1, hc1⟩ := r2.byte 1 (by omega)
  obtain ⟨b2, o2, x2, ha2, hx2, hc2⟩ := r2.byte 2 (by omega)
  obtain ⟨b3, o3, x3, ha3, hx3, hc3⟩ := r2.byte 3 (by omega)
  subst ha
  obtain ⟨rfl, rfl⟩ : b0 = b1 ∧ o0 = o1 := by simpa using ha1
  obtain ⟨rfl, rfl⟩ : b0 = b2 ∧ o0 = o2 := by simpa using ha2
  obtain ⟨rfl, rfl⟩ : b0 = b3 ∧ o0 = o3 := by simpa using ha3
  clear ha1 ha2 ha3
  rw [Nat.add_zero] at hc0
  have hbl := World.block_lt_of_cell? w _ hc0
  simp only at hbl
  have HX : Hid (l.drop m = [x0, x1, x2, x3]) := Lib.hid (list4 (by have := r2.len; simpa using this) hx0 hx1 hx2 hx3)
  clear hx0 hx1 hx2 hx3 r2
  have harr : ∀ (p : Addr) (c : Nat) (wx : World), (Instr.arrayAt 132 (.slice (some p) 4 c)).run Tryd.prog wx = .ok (.pointer (some p)) wx := fun p c wx => by
    simp [Instr.arrayAt, run_underlying Tryd.underlying132]
  have heq := fun (wx : World) => eq4 (x0.toNat : Int) (x1.toNat : Int) (x2.toNat : Int) (x3.toNat : Int) ((s : Int) % 256) ((s : Int) / 256 % 256) ((s : Int) / 65536 % 256) ((s : Int) / 16777216) wx
  go_wp2_with fail
  go_region_with (go_at_call 65; refine (four_lit s _ hsl).mono ?_; rintro e w3 ⟨rfl, rfl⟩)
  all_goals
    go_wp2_with fail
    go_ret
    refine ⟨ret_bool ?_, below_still (below_made _ _) (Still.one _ _)⟩
    rw [HX.out, HSM.out]; exact (four_beq s x0 x1 x2 x3 hsl).symm

set_option maxHeartbeats 400000 in
theorem closed_short (a1 : Option Addr) (n1 c1 : Nat) (w : World) (h4 : n1 < 4) :
    Calls Tryd.prog 62 #[.slice a1 n1 c1] w fun e w' => e = .returned (.bool false) ∧ w = w' := by
  go_enter Tryd.func62, Tryd.ntmps62
  go_wp2_with fail
  go_ret
  exact ⟨rfl, rfl⟩

/-- Whether a text is closed. -/
def closedB (l : List UInt8) : Bool := decide (4 ≤ l.length) && (four (sumN 0 (l.take (l.length - 4))) == l.drop (l.length - 4))

theorem closedB_any (a1 : Option Addr) (n1 c1 : Nat) (l : List UInt8) (w : World) (r1 : RowAt w a1 n1 c1 1 (l.map B)) (ht : Tab w) :
    Calls Tryd.prog 62 #[.slice a1 n1 c1] w fun e w' => e = .returned (.bool (closedB l)) ∧ Below w.heap.size w w' := by
  have e1 : l.length = n1 := by simpa using r1.len
  unfold closedB
  rw [e1]
  by_cases h4 : 4 ≤ n1
  · refine (closed_any a1 n1 c1 l w r1 ht h4).mono fun e w' ⟨h1, h2⟩ => ⟨?_, h2⟩
    rw [h1]; simp [h4]
  · refine (closed_short a1 n1 c1 w (by omega)).mono fun e w' ⟨h1, h2⟩ => ⟨?_, ?_⟩
    · rw [h1]; simp [h4]
    · subst h2; exact Below.refl _ _
end Go.Proofs.YtffhejaeliphcaaDoor

namespace Go.Proofs.YtffhejaeliphcaaDoor
open Go.RowKit
set_option linter.unusedVariables false

theorem closedB_iff (l : List UInt8) (h : 4 ≤ l.length) : closedB l = true ↔ upd 4294967295 l = bitN 32 4294967295 := by
  unfold closedB
  have h2 := closed_iff (l.take (l.length - 4)) (l.drop (l.length - 4)) (by simp; omega)
  rw [List.take_append_drop] at h2
  simp only [h, decide_true, Bool.true_and, beq_iff_eq]
  exact h2

theorem closedB_whole (l : List UInt8) : closedB (l ++ four (sumN 0 l)) = true := by
  rw [closedB_iff _ (by simp [four])]
  exact (closed_iff l (four (sumN 0 l)) rfl).1 rfl

theorem whole_sum (l : List UInt8) : sumN 0 (l ++ four (sumN 0 l)) = 558161692 := by
  have h := (closed_iff l (four (sumN 0 l)) rfl).1 rfl
  unfold sumN at h ⊢
  simp only [Nat.sub_zero] at h ⊢
  rw [h]
  decide +kernel
end Go.Proofs.YtffhejaeliphcaaDoor
