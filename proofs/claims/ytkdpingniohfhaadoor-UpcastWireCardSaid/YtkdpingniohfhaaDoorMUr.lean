/-
  The walks of the reference's Check at any event, version 1, printed by genrchk.py. No condition.
  The walks of the reference's Check at any event, version 2, printed by genrchk.py. No condition.
-/
import Derived.Test.YtkdpingniohfhaaDoorMTb
import Derived.Deep.Cut
import Derived.Deep.RegionHeld3
import Derived.Deep.QuietTactic
import Derived.BigQuiet
namespace Go.Proofs.YtkdpingniohfhaaDoor
open Go.RowKit
set_option linter.unusedVariables false

set_option maxRecDepth 20000 in
set_option maxHeartbeats 6400000 in
theorem rchk_t1 (k o i q p c t : Int) (u : ByteArray) (s : Int) (n : ByteArray) (w : World) (hk : k ≤ lastK 1) (hk1 : 1 ≤ k) (hu : u.size ≤ 16) (hn : n.size ≤ 120) : Calls Tryd.prog 29 #[.int .i64 1, .agg #[.int .i64 k, .int .i64 o, .int .i64 i, .int .i64 q, .int .i64 p, .int .i64 c, .int .i64 t, .string u, .int .i64 s, .string n]] w fun x w' => x = .returned (.int .i64 (chk 1 ⟨k, o, i, q, p, c, t, u, s, n⟩)) ∧ Below w.heap.size w w' := by
  have hd : decide (k < 1) = false := by simp; omega
  have hd2 : decide (lastK 1 < k) = false := by simp; omega
  have HH := Lib.hid (fun wx => rhas_any 1 wx (by decide) (by decide))
  have HLA := Lib.hid (fun wx => rlast_any 1 wx (by decide) (by decide))
  have hnn := fun wx => rnums_any ⟨k, o, i, q, p, c, t, u, s, n⟩ wx
  unfold Ev.val Ev.cells at hnn
  have HN := Lib.hid hnn
  have SY := Lib.hid (says 1 ⟨k, o, i, q, p, c, t, u, s, n⟩ (by decide) (by decide) (by show ¬ k < 1; omega) hk hu hn)
  have hu2 : ¬ 16 < (u.size : Int) := by omega
  have hn2 : ¬ 120 < (n.size : Int) := by omega
  have hmx : (u.size : Int) ≤ 16 := by omega
  clear hnn
  have hb0 := below_made w (.cells #[.int .i64 k, .int .i64 o, .int .i64 i, .int .i64 q, .int .i64 p, .int .i64 c, .int .i64 t, .string u, .int .i64 s, .string n] 25)
  have h0 := heap_alloc_new w (.cells #[.int .i64 k, .int .i64 o, .int .i64 i, .int .i64 q, .int .i64 p, .int .i64 c, .int .i64 t, .string u, .int .i64 s, .string n] 25)
  have g0 : (w.alloc (.cells #[.int .i64 k, .int .i64 o, .int .i64 i, .int .i64 q, .int .i64 p, .int .i64 c, .int .i64 t, .string u, .int .i64 s, .string n] 25)).cell? ⟨w.heap.size, 0, none⟩ = some (.int .i64 k) := cell_blk h0 rfl
  go_enter Tryd.func29, Tryd.ntmps29
  go_wp2_with fail
  have hac : Below w.heap.size w (w.alloc (.cells #[.int .i64 k, .int .i64 o, .int .i64 i, .int .i64 q, .int .i64 p, .int .i64 c, .int .i64 t, .string u, .int .i64 s, .string n] 25)).drew := hb0.trans ((Still.one _ 1).below _)
  have hEc : (w.alloc (.cells #[.int .i64 k, .int .i64 o, .int .i64 i, .int .i64 q, .int .i64 p, .int .i64 c, .int .i64 t, .string u, .int .i64 s, .string n] 25)).drew.heap[w.heap.size]? = some (.cells #[.int .i64 k, .int .i64 o, .int .i64 i, .int .i64 q, .int .i64 p, .int .i64 c, .int .i64 t, .string u, .int .i64 s, .string n] 25) := h0
  obtain ⟨wa, hwa⟩ : ∃ wa, w.alloc (.cells #[.int .i64 k, .int .i64 o, .int .i64 i, .int .i64 q, .int .i64 p, .int .i64 c, .int .i64 t, .string u, .int .i64 s, .string n] 25) = wa := ⟨_, rfl⟩
  rw [hwa] at g0 hac hEc ⊢
  clear hwa h0 hb0
  go_region_held3 (fun w' => w'.cell? ⟨w.heap.size, 0, none⟩ = some (.int .i64 k))
    (first
      | go_keep
      | exact below_cell hbc (by assumption))
    (first
      | (go_at_call 42; refine (HLA.out _).mono ?_; rintro e wc ⟨rfl, hbc⟩; have hac := below_next hac hbc; have hEc := below_blk hbc hEc))
  clear g0
  obtain ⟨g0, g1, g2, g3, g4, g5, g6, g7, g8, g9⟩ := evAt hEc
  go_upto_region 13 with (fail)
  have hz : w.heap.size < wc.heap.size := lt_of_block hEc
  have hba := below_made wc (.cells #[.int .i64 0, .int .i64 1, .int .i64 1, .int .i64 0, .int .i64 (-10000), .int .i64 0, .int .i64 0, .int .i64 0, .int .i64 0, .int .i64 0, .int .i64 0] 3)
  have hbb := below_made (wc.alloc (.cells #[.int .i64 0, .int .i64 1, .int .i64 1, .int .i64 0, .int .i64 (-10000), .int .i64 0, .int .i64 0, .int .i64 0, .int .i64 0, .int .i64 0, .int .i64 0] 3)) (.cells #[.int .i64 0, .int .i64 10, .int .i64 1099511627776, .int .i64 65535, .int .i64 10000, .int .i64 1000000, .int .i64 3, .int .i64 5000, .int .i64 0, .int .i64 1099511627776, .int .i64 0] 3)
  have hs1 : (wc.alloc (.cells #[.int .i64 0, .int .i64 1, .int .i64 1, .int .i64 0, .int .i64 (-10000), .int .i64 0, .int .i64 0, .int .i64 0, .int .i64 0, .int .i64 0, .int .i64 0] 3)).heap.size = wc.heap.size + 1 := by simp
  have hL : ((wc.alloc (.cells #[.int .i64 0, .int .i64 1, .int .i64 1, .int .i64 0, .int .i64 (-10000), .int .i64 0, .int .i64 0, .int .i64 0, .int .i64 0, .int .i64 0, .int .i64 0] 3)).alloc (.cells #[.int .i64 0, .int .i64 10, .int .i64 1099511627776, .int .i64 65535, .int .i64 10000, .int .i64 1000000, .int .i64 3, .int .i64 5000, .int .i64 0, .int .i64 1099511627776, .int .i64 0] 3)).heap[wc.heap.size]? = some (.cells (arr11 (lowAt 1)) 3 (0, 0)) := (hbb.block _ (by omega)).trans (heap_alloc_new wc _)
  have hH : ((wc.alloc (.cells #[.int .i64 0, .int .i64 1, .int .i64 1, .int .i64 0, .int .i64 (-10000), .int .i64 0, .int .i64 0, .int .i64 0, .int .i64 0, .int .i64 0, .int .i64 0] 3)).alloc (.cells #[.int .i64 0, .int .i64 10, .int .i64 1099511627776, .int .i64 65535, .int .i64 10000, .int .i64 1000000, .int .i64 3, .int .i64 5000, .int .i64 0, .int .i64 1099511627776, .int .i64 0] 3)).heap[wc.heap.size + 1]? = some (.cells (arr11 (highAt 1)) 3 (0, 0)) := by
    have h := heap_alloc_new (wc.alloc (.cells #[.int .i64 0, .int .i64 1, .int .i64 1, .int .i64 0, .int .i64 (-10000), .int .i64 0, .int .i64 0, .int .i64 0, .int .i64 0, .int .i64 0, .int .i64 0] 3)) (.cells #[.int .i64 0, .int .i64 10, .int .i64 1099511627776, .int .i64 65535, .int .i64 10000, .int .i64 1000000, .int .i64 3, .int .i64 5000, .int .i64 0, .int .i64 1099511627776, .int .i64 0] 3)
    rw [hs1] at h
    exact h
  have hE := below_blk hbb (below_blk hba hEc)
  have hab := below_next (below_next hac hba) hbb
  have hsz : wc.heap.size + 2 = ((wc.alloc (.cells #[.int .i64 0, .int .i64 1, .int .i64 1, .int .i64 0, .int .i64 (-10000), .int .i64 0, .int .i64 0, .int .i64 0, .int .i64 0, .int .i64 0, .int .i64 0] 3)).alloc (.cells #[.int .i64 0, .int .i64 10, .int .i64 1099511627776, .int .i64 65535, .int .i64 10000, .int .i64 1000000, .int .i64 3, .int .i64 5000, .int .i64 0, .int .i64 1099511627776, .int .i64 0] 3)).heap.size := by simp
  obtain ⟨wb, hwb⟩ : ∃ wb, (wc.alloc (.cells #[.int .i64 0, .int .i64 1, .int .i64 1, .int .i64 0, .int .i64 (-10000), .int .i64 0, .int .i64 0, .int .i64 0, .int .i64 0, .int .i64 0, .int .i64 0] 3)).alloc (.cells #[.int .i64 0, .int .i64 10, .int .i64 1099511627776, .int .i64 65535, .int .i64 10000, .int .i64 1000000, .int .i64 3, .int .i64 5000, .int .i64 0, .int .i64 1099511627776, .int .i64 0] 3) = wb := ⟨_, rfl⟩
  rw [hwb] at hL hH hE hab hsz ⊢
  clear hwb hba hbb hs1 hEc hac g0 g1 g2 g3 g4 g5 g6 g7 g8 g9
  go_wp2_with (with_reducible refine wpList_load_row rfl 25 (.tmp 3) rfl w.heap.size rfl _ #[.int .i64 k, .int .i64 o, .int .i64 i, .int .i64 q, .int .i64 p, .int .i64 c, .int .i64 t, .string u, .int .i64 s, .string n] (0, 0) _ hE Tryd.underlying25 rfl (by with_unfolding_all exact info_ev) ?_)
  (with_reducible refine (HN.out _).mono ?_)
  rintro x w1 ⟨b, rfl, hbge, hNb, hb1⟩
  have hE := below_blk hb1 hE
  have hL := below_blk hb1 hL
  have hH := below_blk hb1 hH
  have hab := below_next hab hb1
  clear hb1 hbge hsz
  go_wp2_with fail
  go_loopw [8] (fun iv wr => ∃ j : Nat, iv = .int .i64 (j : Int) ∧ 1 ≤ j ∧ j ≤ 11 ∧ Hid (∀ tt, 1 ≤ tt → tt < j → okAt 1 ⟨k, o, i, q, p, c, t, u, s, n⟩ tt) ∧ Below w1.heap.size w1 wr) (fun iv _ => 11 - (intOf iv).toNat)
  case atStart => exact ⟨1, rfl, Nat.le_refl _, by omega, Lib.hid (fun tt h1 h2 => absurd h1 (by omega)), Below.refl _ _⟩
  case round =>
    obtain ⟨j, rfl, hj1, hj11, HV, hbr⟩ := hrel
    by_cases hjl : j < 11
    · have hj10 : (j : Int) ≤ 10 := by omega
      obtain ⟨x, hx⟩ : ∃ x : Int, x = numAt ⟨k, o, i, q, p, c, t, u, s, n⟩ j := ⟨_, rfl⟩
      obtain ⟨lo, hlo⟩ : ∃ lo : Int, lo = lowAt 1 j := ⟨_, rfl⟩
      obtain ⟨hi, hhi⟩ : ∃ hi : Int, hi = highAt 1 j := ⟨_, rfl⟩
      have HX := Lib.hid hx
      have HLO := Lib.hid hlo
      have HHI := Lib.hid hhi
      have cN := arr11_at (numAt ⟨k, o, i, q, p, c, t, u, s, n⟩) j hjl
      have cL := arr11_at (lowAt 1) j hjl
      have cH := arr11_at (highAt 1) j hjl
      rw [← hx] at cN
      rw [← hlo] at cL
      rw [← hhi] at cH
      clear hx hlo hhi
      have HBT := Lib.hid (fun h => SY.out.badT j hj1 hjl h)
      have HOK : Hid (((5 : Int) < j → x = 0) → lo ≤ x → x ≤ hi → ∀ tt, 1 ≤ tt → tt < j + 1 → okAt 1 ⟨k, o, i, q, p, c, t, u, s, n⟩ tt) := Lib.hid (fun a b' c' tt h1 h2 => by
        by_cases he : tt = j
        · subst he
          exact ⟨fun h => by rw [← HX.out]; exact a h, by rw [← HX.out, ← HLO.out]; exact b', by rw [← HX.out, ← HHI.out]; exact c'⟩
        · exact HV.out tt h1 (by omega))
      have hE2 := below_blk hbr hE
      have hL2 := cell_blk (below_blk hbr hL) cL
      have hH2 := cell_blk (below_blk hbr hH) cH
      have hN2 := cell_blk (below_blk hbr hNb) cN
      have hab0 := below_next hab hbr
      clear hE hL hH hNb cN cL cH HV hab
      go_wp2_with fail
      (with_reducible refine (HH.out _).mono ?_)
      rintro y w2 ⟨rfl, hb2⟩
      have hL2 := below_cell hb2 hL2
      have hH2 := below_cell hb2 hH2
      have hN2 := below_cell hb2 hN2
      have hab2 := below_next hab0 hb2
      clear hE2 hab0
      have hhs : hasV 1 = 5 := by decide
      rw [hhs]
      by_cases hA : (5 : Int) < (j : Int)
      · by_cases hx0 : x = 0
        · have hzero := hx0
          clear hx0
          obtain rfl := hzero
          go_wp2_with fail
          by_cases hl : 0 < lo
          · have hd3 : decide (0 < lo) = true := by simpa using hl
            have HB := Lib.hid (HBT.out (fun h => absurd h.2.1 (by first | omega | (rw [← HX.out, ← HLO.out]; omega))))
            clear hl HLO HHI HX HBT HOK
            go_quiet (fail)
            go_wp2_with fail
            go_ret
            exact ⟨by rw [HB.out]; rfl, below_still hab2 ⟨_, rfl⟩⟩
          have hd3 : decide (0 < lo) = false := by simp; omega
          by_cases hh : hi < 0
          · have hd4 : decide (hi < 0) = true := by simpa using hh
            have HB := Lib.hid (HBT.out (fun h => absurd h.2.2 (by first | omega | (rw [← HX.out, ← HHI.out]; omega))))
            clear hl hh HLO HHI HX HBT HOK
            go_quiet (fail)
            go_wp2_with fail
            go_ret
            exact ⟨by rw [HB.out]; rfl, below_still hab2 ⟨_, rfl⟩⟩
          have hd4 : decide (hi < 0) = false := by simp; omega
          have HK := Lib.hid (HOK.out (by first | exact fun _ => rfl | exact trivial | simp) (by first | omega | (rw [← HX.out, ← HLO.out]; omega)) (by first | omega | (rw [← HX.out, ← HHI.out]; omega)))
          clear hl hh HLO HHI HX HBT HOK
          go_quiet (fail)
          go_wp2_with fail
          go_roundw
          case rel => exact ⟨j + 1, by go_num, by omega, by omega, HK, below_next hbr (hb2.trans ((Still.one _ _).below _))⟩
          case measure => simp [intOf]; omega

        · have hx1 : (x != 0) = true := by simpa using hx0
          have HB := Lib.hid (HBT.out (fun h => hx0 (by rw [HX.out]; exact h.1 (by rw [hhs]; exact hA))))
          clear HX HLO HHI HBT HOK
          go_wp2_with fail
          go_ret
          exact ⟨by rw [HB.out]; rfl, hab2⟩
      · go_wp2_with fail
        by_cases hl : x < lo
        · have hd3 : decide (x < lo) = true := by simpa using hl
          have HB := Lib.hid (HBT.out (fun h => absurd h.2.1 (by first | omega | (rw [← HX.out, ← HLO.out]; omega))))
          clear hl HLO HHI HX HBT HOK
          go_quiet (fail)
          go_wp2_with fail
          go_ret
          exact ⟨by rw [HB.out]; rfl, below_still hab2 ⟨_, rfl⟩⟩
        have hd3 : decide (x < lo) = false := by simp; omega
        by_cases hh : hi < x
        · have hd4 : decide (hi < x) = true := by simpa using hh
          have HB := Lib.hid (HBT.out (fun h => absurd h.2.2 (by first | omega | (rw [← HX.out, ← HHI.out]; omega))))
          clear hl hh HLO HHI HX HBT HOK
          go_quiet (fail)
          go_wp2_with fail
          go_ret
          exact ⟨by rw [HB.out]; rfl, below_still hab2 ⟨_, rfl⟩⟩
        have hd4 : decide (hi < x) = false := by simp; omega
        have HK := Lib.hid (HOK.out (fun h => absurd h (by omega)) (by first | omega | (rw [← HX.out, ← HLO.out]; omega)) (by first | omega | (rw [← HX.out, ← HHI.out]; omega)))
        clear hl hh HLO HHI HX HBT HOK
        go_quiet (fail)
        go_wp2_with fail
        go_roundw
        case rel => exact ⟨j + 1, by go_num, by omega, by omega, HK, below_next hbr (hb2.trans ((Still.one _ _).below _))⟩
        case measure => simp [intOf]; omega

    · have hj11' : j = 11 := by omega
      have HALL : Hid (allOk 1 ⟨k, o, i, q, p, c, t, u, s, n⟩) := Lib.hid (fun tt h1 h2 => HV.out tt h1 (by omega))
      clear HV hj1 hj11 hjl
      obtain rfl := hj11'
      have hab := below_next hab hbr
      obtain ⟨wz, hwz⟩ : ∃ wz, wz = wr := ⟨_, rfl⟩
      obtain ⟨g0, g1, g2, g3, g4, g5, g6, g7, g8, g9⟩ := evAt (below_blk hbr hE)
      clear hE hL hH hNb hbr
      subst hwz
      by_cases hne : u.size ≠ 0
      · obtain ⟨x1, x2, x3, x4⟩ := bytes_ne hne
        have HB := Lib.hid (SY.out.badU (by decide) hne)
        go_wp2_with fail
        go_ret
        exact ⟨by rw [HB.out]; rfl, hab⟩
      obtain rfl := bytes_nil (by omega : u.size = 0)
      clear hne
      by_cases hne : n.size ≠ 0
      · obtain ⟨x1, x2, x3, x4⟩ := bytes_ne hne
        have HB := Lib.hid (SY.out.badN (by decide) hne)
        go_wp2_with fail
        go_ret
        exact ⟨by rw [HB.out]; rfl, hab⟩
      obtain rfl := bytes_nil (by omega : n.size = 0)
      clear hne
      clear g0 g1 g2 g3 g4 g5 g6 g8
      have HZ := Lib.hid (SY.out.good HALL.out (fun _ => rfl) (fun _ => rfl) rfl)
      go_wp2_with fail
      go_loopw [9] (fun iv wr => iv = .int .i64 0 ∧ wr = wz) (fun _ _ => 0)
      case atStart => exact ⟨rfl, rfl⟩
      case round =>
        obtain ⟨rfl, rfl⟩ := hrel
        go_wp2_with fail
        go_ret
        exact ⟨by rw [HZ.out]; rfl, hab⟩

end Go.Proofs.YtkdpingniohfhaaDoor

namespace Go.Proofs.YtkdpingniohfhaaDoor
open Go.RowKit
set_option linter.unusedVariables false

set_option maxRecDepth 20000 in
set_option maxHeartbeats 6400000 in
theorem rchk_t2 (k o i q p c t : Int) (u : ByteArray) (s : Int) (n : ByteArray) (w : World) (hk : k ≤ lastK 2) (hk1 : 1 ≤ k) (hu : u.size ≤ 16) (hn : n.size ≤ 120) : Calls Tryd.prog 29 #[.int .i64 2, .agg #[.int .i64 k, .int .i64 o, .int .i64 i, .int .i64 q, .int .i64 p, .int .i64 c, .int .i64 t, .string u, .int .i64 s, .string n]] w fun x w' => x = .returned (.int .i64 (chk 2 ⟨k, o, i, q, p, c, t, u, s, n⟩)) ∧ Below w.heap.size w w' := by
  have hd : decide (k < 1) = false := by simp; omega
  have hd2 : decide (lastK 2 < k) = false := by simp; omega
  have HH := Lib.hid (fun wx => rhas_any 2 wx (by decide) (by decide))
  have HLA := Lib.hid (fun wx => rlast_any 2 wx (by decide) (by decide))
  have hnn := fun wx => rnums_any ⟨k, o, i, q, p, c, t, u, s, n⟩ wx
  unfold Ev.val Ev.cells at hnn
  have HN := Lib.hid hnn
  have SY := Lib.hid (says 2 ⟨k, o, i, q, p, c, t, u, s, n⟩ (by decide) (by decide) (by show ¬ k < 1; omega) hk hu hn)
  have hu2 : ¬ 16 < (u.size : Int) := by omega
  have hn2 : ¬ 120 < (n.size : Int) := by omega
  have hmx : (u.size : Int) ≤ 16 := by omega
  clear hnn
  have hb0 := below_made w (.cells #[.int .i64 k, .int .i64 o, .int .i64 i, .int .i64 q, .int .i64 p, .int .i64 c, .int .i64 t, .string u, .int .i64 s, .string n] 25)
  have h0 := heap_alloc_new w (.cells #[.int .i64 k, .int .i64 o, .int .i64 i, .int .i64 q, .int .i64 p, .int .i64 c, .int .i64 t, .string u, .int .i64 s, .string n] 25)
  have g0 : (w.alloc (.cells #[.int .i64 k, .int .i64 o, .int .i64 i, .int .i64 q, .int .i64 p, .int .i64 c, .int .i64 t, .string u, .int .i64 s, .string n] 25)).cell? ⟨w.heap.size, 0, none⟩ = some (.int .i64 k) := cell_blk h0 rfl
  go_enter Tryd.func29, Tryd.ntmps29
  go_wp2_with fail
  have hac : Below w.heap.size w (w.alloc (.cells #[.int .i64 k, .int .i64 o, .int .i64 i, .int .i64 q, .int .i64 p, .int .i64 c, .int .i64 t, .string u, .int .i64 s, .string n] 25)).drew := hb0.trans ((Still.one _ 1).below _)
  have hEc : (w.alloc (.cells #[.int .i64 k, .int .i64 o, .int .i64 i, .int .i64 q, .int .i64 p, .int .i64 c, .int .i64 t, .string u, .int .i64 s, .string n] 25)).drew.heap[w.heap.size]? = some (.cells #[.int .i64 k, .int .i64 o, .int .i64 i, .int .i64 q, .int .i64 p, .int .i64 c, .int .i64 t, .string u, .int .i64 s, .string n] 25) := h0
  obtain ⟨wa, hwa⟩ : ∃ wa, w.alloc (.cells #[.int .i64 k, .int .i64 o, .int .i64 i, .int .i64 q, .int .i64 p, .int .i64 c, .int .i64 t, .string u, .int .i64 s, .string n] 25) = wa := ⟨_, rfl⟩
  rw [hwa] at g0 hac hEc ⊢
  clear hwa h0 hb0
  go_region_held3 (fun w' => w'.cell? ⟨w.heap.size, 0, none⟩ = some (.int .i64 k))
    (first
      | go_keep
      | exact below_cell hbc (by assumption))
    (first
      | (go_at_call 42; refine (HLA.out _).mono ?_; rintro e wc ⟨rfl, hbc⟩; have hac := below_next hac hbc; have hEc := below_blk hbc hEc))
  clear g0
  obtain ⟨g0, g1, g2, g3, g4, g5, g6, g7, g8, g9⟩ := evAt hEc
  go_upto_region 13 with (fail)
  have hz : w.heap.size < wc.heap.size := lt_of_block hEc
  have hba := below_made wc (.cells #[.int .i64 0, .int .i64 1, .int .i64 1, .int .i64 0, .int .i64 (-10000), .int .i64 0, .int .i64 0, .int .i64 0, .int .i64 0, .int .i64 0, .int .i64 0] 3)
  have hbb := below_made (wc.alloc (.cells #[.int .i64 0, .int .i64 1, .int .i64 1, .int .i64 0, .int .i64 (-10000), .int .i64 0, .int .i64 0, .int .i64 0, .int .i64 0, .int .i64 0, .int .i64 0] 3)) (.cells #[.int .i64 0, .int .i64 10, .int .i64 1099511627776, .int .i64 65535, .int .i64 10000, .int .i64 100000000, .int .i64 3, .int .i64 5000, .int .i64 0, .int .i64 1099511627776, .int .i64 0] 3)
  have hs1 : (wc.alloc (.cells #[.int .i64 0, .int .i64 1, .int .i64 1, .int .i64 0, .int .i64 (-10000), .int .i64 0, .int .i64 0, .int .i64 0, .int .i64 0, .int .i64 0, .int .i64 0] 3)).heap.size = wc.heap.size + 1 := by simp
  have hL : ((wc.alloc (.cells #[.int .i64 0, .int .i64 1, .int .i64 1, .int .i64 0, .int .i64 (-10000), .int .i64 0, .int .i64 0, .int .i64 0, .int .i64 0, .int .i64 0, .int .i64 0] 3)).alloc (.cells #[.int .i64 0, .int .i64 10, .int .i64 1099511627776, .int .i64 65535, .int .i64 10000, .int .i64 100000000, .int .i64 3, .int .i64 5000, .int .i64 0, .int .i64 1099511627776, .int .i64 0] 3)).heap[wc.heap.size]? = some (.cells (arr11 (lowAt 2)) 3 (0, 0)) := (hbb.block _ (by omega)).trans (heap_alloc_new wc _)
  have hH : ((wc.alloc (.cells #[.int .i64 0, .int .i64 1, .int .i64 1, .int .i64 0, .int .i64 (-10000), .int .i64 0, .int .i64 0, .int .i64 0, .int .i64 0, .int .i64 0, .int .i64 0] 3)).alloc (.cells #[.int .i64 0, .int .i64 10, .int .i64 1099511627776, .int .i64 65535, .int .i64 10000, .int .i64 100000000, .int .i64 3, .int .i64 5000, .int .i64 0, .int .i64 1099511627776, .int .i64 0] 3)).heap[wc.heap.size + 1]? = some (.cells (arr11 (highAt 2)) 3 (0, 0)) := by
    have h := heap_alloc_new (wc.alloc (.cells #[.int .i64 0, .int .i64 1, .int .i64 1, .int .i64 0, .int .i64 (-10000), .int .i64 0, .int .i64 0, .int .i64 0, .int .i64 0, .int .i64 0, .int .i64 0] 3)) (.cells #[.int .i64 0, .int .i64 10, .int .i64 1099511627776, .int .i64 65535, .int .i64 10000, .int .i64 100000000, .int .i64 3, .int .i64 5000, .int .i64 0, .int .i64 1099511627776, .int .i64 0] 3)
    rw [hs1] at h
    exact h
  have hE := below_blk hbb (below_blk hba hEc)
  have hab := below_next (below_next hac hba) hbb
  have hsz : wc.heap.size + 2 = ((wc.alloc (.cells #[.int .i64 0, .int .i64 1, .int .i64 1, .int .i64 0, .int .i64 (-10000), .int .i64 0, .int .i64 0, .int .i64 0, .int .i64 0, .int .i64 0, .int .i64 0] 3)).alloc (.cells #[.int .i64 0, .int .i64 10, .int .i64 1099511627776, .int .i64 65535, .int .i64 10000, .int .i64 100000000, .int .i64 3, .int .i64 5000, .int .i64 0, .int .i64 1099511627776, .int .i64 0] 3)).heap.size := by simp
  obtain ⟨wb, hwb⟩ : ∃ wb, (wc.alloc (.cells #[.int .i64 0, .int .i64 1, .int .i64 1, .int .i64 0, .int .i64 (-10000), .int .i64 0, .int .i64 0, .int .i64 0, .int .i64 0, .int .i64 0, .int .i64 0] 3)).alloc (.cells #[.int .i64 0, .int .i64 10, .int .i64 1099511627776, .int .i64 65535, .int .i64 10000, .int .i64 100000000, .int .i64 3, .int .i64 5000, .int .i64 0, .int .i64 1099511627776, .int .i64 0] 3) = wb := ⟨_, rfl⟩
  rw [hwb] at hL hH hE hab hsz ⊢
  clear hwb hba hbb hs1 hEc hac g0 g1 g2 g3 g4 g5 g6 g7 g8 g9
  go_wp2_with (with_reducible refine wpList_load_row rfl 25 (.tmp 3) rfl w.heap.size rfl _ #[.int .i64 k, .int .i64 o, .int .i64 i, .int .i64 q, .int .i64 p, .int .i64 c, .int .i64 t, .string u, .int .i64 s, .string n] (0, 0) _ hE Tryd.underlying25 rfl (by with_unfolding_all exact info_ev) ?_)
  (with_reducible refine (HN.out _).mono ?_)
  rintro x w1 ⟨b, rfl, hbge, hNb, hb1⟩
  have hE := below_blk hb1 hE
  have hL := below_blk hb1 hL
  have hH := below_blk hb1 hH
  have hab := below_next hab hb1
  clear hb1 hbge hsz
  go_wp2_with fail
  go_loopw [8] (fun iv wr => ∃ j : Nat, iv = .int .i64 (j : Int) ∧ 1 ≤ j ∧ j ≤ 11 ∧ Hid (∀ tt, 1 ≤ tt → tt < j → okAt 2 ⟨k, o, i, q, p, c, t, u, s, n⟩ tt) ∧ Below w1.heap.size w1 wr) (fun iv _ => 11 - (intOf iv).toNat)
  case atStart => exact ⟨1, rfl, Nat.le_refl _, by omega, Lib.hid (fun tt h1 h2 => absurd h1 (by omega)), Below.refl _ _⟩
  case round =>
    obtain ⟨j, rfl, hj1, hj11, HV, hbr⟩ := hrel
    by_cases hjl : j < 11
    · have hj10 : (j : Int) ≤ 10 := by omega
      obtain ⟨x, hx⟩ : ∃ x : Int, x = numAt ⟨k, o, i, q, p, c, t, u, s, n⟩ j := ⟨_, rfl⟩
      obtain ⟨lo, hlo⟩ : ∃ lo : Int, lo = lowAt 2 j := ⟨_, rfl⟩
      obtain ⟨hi, hhi⟩ : ∃ hi : Int, hi = highAt 2 j := ⟨_, rfl⟩
      have HX := Lib.hid hx
      have HLO := Lib.hid hlo
      have HHI := Lib.hid hhi
      have cN := arr11_at (numAt ⟨k, o, i, q, p, c, t, u, s, n⟩) j hjl
      have cL := arr11_at (lowAt 2) j hjl
      have cH := arr11_at (highAt 2) j hjl
      rw [← hx] at cN
      rw [← hlo] at cL
      rw [← hhi] at cH
      clear hx hlo hhi
      have HBT := Lib.hid (fun h => SY.out.badT j hj1 hjl h)
      have HOK : Hid (((6 : Int) < j → x = 0) → lo ≤ x → x ≤ hi → ∀ tt, 1 ≤ tt → tt < j + 1 → okAt 2 ⟨k, o, i, q, p, c, t, u, s, n⟩ tt) := Lib.hid (fun a b' c' tt h1 h2 => by
        by_cases he : tt = j
        · subst he
          exact ⟨fun h => by rw [← HX.out]; exact a h, by rw [← HX.out, ← HLO.out]; exact b', by rw [← HX.out, ← HHI.out]; exact c'⟩
        · exact HV.out tt h1 (by omega))
      have hE2 := below_blk hbr hE
      have hL2 := cell_blk (below_blk hbr hL) cL
      have hH2 := cell_blk (below_blk hbr hH) cH
      have hN2 := cell_blk (below_blk hbr hNb) cN
      have hab0 := below_next hab hbr
      clear hE hL hH hNb cN cL cH HV hab
      go_wp2_with fail
      (with_reducible refine (HH.out _).mono ?_)
      rintro y w2 ⟨rfl, hb2⟩
      have hL2 := below_cell hb2 hL2
      have hH2 := below_cell hb2 hH2
      have hN2 := below_cell hb2 hN2
      have hab2 := below_next hab0 hb2
      clear hE2 hab0
      have hhs : hasV 2 = 6 := by decide
      rw [hhs]
      by_cases hA : (6 : Int) < (j : Int)
      · by_cases hx0 : x = 0
        · have hzero := hx0
          clear hx0
          obtain rfl := hzero
          go_wp2_with fail
          by_cases hl : 0 < lo
          · have hd3 : decide (0 < lo) = true := by simpa using hl
            have HB := Lib.hid (HBT.out (fun h => absurd h.2.1 (by first | omega | (rw [← HX.out, ← HLO.out]; omega))))
            clear hl HLO HHI HX HBT HOK
            go_quiet (fail)
            go_wp2_with fail
            go_ret
            exact ⟨by rw [HB.out]; rfl, below_still hab2 ⟨_, rfl⟩⟩
          have hd3 : decide (0 < lo) = false := by simp; omega
          by_cases hh : hi < 0
          · have hd4 : decide (hi < 0) = true := by simpa using hh
            have HB := Lib.hid (HBT.out (fun h => absurd h.2.2 (by first | omega | (rw [← HX.out, ← HHI.out]; omega))))
            clear hl hh HLO HHI HX HBT HOK
            go_quiet (fail)
            go_wp2_with fail
            go_ret
            exact ⟨by rw [HB.out]; rfl, below_still hab2 ⟨_, rfl⟩⟩
          have hd4 : decide (hi < 0) = false := by simp; omega
          have HK := Lib.hid (HOK.out (by first | exact fun _ => rfl | exact trivial | simp) (by first | omega | (rw [← HX.out, ← HLO.out]; omega)) (by first | omega | (rw [← HX.out, ← HHI.out]; omega)))
          clear hl hh HLO HHI HX HBT HOK
          go_quiet (fail)
          go_wp2_with fail
          go_roundw
          case rel => exact ⟨j + 1, by go_num, by omega, by omega, HK, below_next hbr (hb2.trans ((Still.one _ _).below _))⟩
          case measure => simp [intOf]; omega

        · have hx1 : (x != 0) = true := by simpa using hx0
          have HB := Lib.hid (HBT.out (fun h => hx0 (by rw [HX.out]; exact h.1 (by rw [hhs]; exact hA))))
          clear HX HLO HHI HBT HOK
          go_wp2_with fail
          go_ret
          exact ⟨by rw [HB.out]; rfl, hab2⟩
      · go_wp2_with fail
        by_cases hl : x < lo
        · have hd3 : decide (x < lo) = true := by simpa using hl
          have HB := Lib.hid (HBT.out (fun h => absurd h.2.1 (by first | omega | (rw [← HX.out, ← HLO.out]; omega))))
          clear hl HLO HHI HX HBT HOK
          go_quiet (fail)
          go_wp2_with fail
          go_ret
          exact ⟨by rw [HB.out]; rfl, below_still hab2 ⟨_, rfl⟩⟩
        have hd3 : decide (x < lo) = false := by simp; omega
        by_cases hh : hi < x
        · have hd4 : decide (hi < x) = true := by simpa using hh
          have HB := Lib.hid (HBT.out (fun h => absurd h.2.2 (by first | omega | (rw [← HX.out, ← HHI.out]; omega))))
          clear hl hh HLO HHI HX HBT HOK
          go_quiet (fail)
          go_wp2_with fail
          go_ret
          exact ⟨by rw [HB.out]; rfl, below_still hab2 ⟨_, rfl⟩⟩
        have hd4 : decide (hi < x) = false := by simp; omega
        have HK := Lib.hid (HOK.out (fun h => absurd h (by omega)) (by first | omega | (rw [← HX.out, ← HLO.out]; omega)) (by first | omega | (rw [← HX.out, ← HHI.out]; omega)))
        clear hl hh HLO HHI HX HBT HOK
        go_quiet (fail)
        go_wp2_with fail
        go_roundw
        case rel => exact ⟨j + 1, by go_num, by omega, by omega, HK, below_next hbr (hb2.trans ((Still.one _ _).below _))⟩
        case measure => simp [intOf]; omega

    · have hj11' : j = 11 := by omega
      have HALL : Hid (allOk 2 ⟨k, o, i, q, p, c, t, u, s, n⟩) := Lib.hid (fun tt h1 h2 => HV.out tt h1 (by omega))
      clear HV hj1 hj11 hjl
      obtain rfl := hj11'
      have hab := below_next hab hbr
      obtain ⟨wz, hwz⟩ : ∃ wz, wz = wr := ⟨_, rfl⟩
      obtain ⟨g0, g1, g2, g3, g4, g5, g6, g7, g8, g9⟩ := evAt (below_blk hbr hE)
      clear hE hL hH hNb hbr
      subst hwz
      by_cases hne : u.size ≠ 0
      · obtain ⟨x1, x2, x3, x4⟩ := bytes_ne hne
        have HB := Lib.hid (SY.out.badU (by decide) hne)
        go_wp2_with fail
        go_ret
        exact ⟨by rw [HB.out]; rfl, hab⟩
      obtain rfl := bytes_nil (by omega : u.size = 0)
      clear hne
      by_cases hne : n.size ≠ 0
      · obtain ⟨x1, x2, x3, x4⟩ := bytes_ne hne
        have HB := Lib.hid (SY.out.badN (by decide) hne)
        go_wp2_with fail
        go_ret
        exact ⟨by rw [HB.out]; rfl, hab⟩
      obtain rfl := bytes_nil (by omega : n.size = 0)
      clear hne
      clear g0 g1 g2 g3 g4 g5 g6 g8
      have HZ := Lib.hid (SY.out.good HALL.out (fun _ => rfl) (fun _ => rfl) rfl)
      go_wp2_with fail
      go_loopw [9] (fun iv wr => iv = .int .i64 0 ∧ wr = wz) (fun _ _ => 0)
      case atStart => exact ⟨rfl, rfl⟩
      case round =>
        obtain ⟨rfl, rfl⟩ := hrel
        go_wp2_with fail
        go_ret
        exact ⟨by rw [HZ.out]; rfl, hab⟩

end Go.Proofs.YtkdpingniohfhaaDoor
