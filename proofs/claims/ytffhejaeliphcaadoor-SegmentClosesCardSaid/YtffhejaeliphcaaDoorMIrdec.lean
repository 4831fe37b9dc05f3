/-
  The walk of the reference's Decode of an index. Condition: the slice reads as bytes.
-/
import Derived.Test.YtffhejaeliphcaaDoorMId
namespace Go.Proofs.YtffhejaeliphcaaDoor
open Go.RowKit
set_option linter.unusedVariables false

set_option maxHeartbeats 2000000 in
theorem irdec_any (a : Option Addr) (n c : Nat) (l : List UInt8) (w : World) (r : RowAt w a n c 1 (l.map B)) :
    Calls Tryd.prog 48 #[.slice a n c] w (GivesME 67 w (decIx l)) := by
  have hl : l.length = n := by simpa using r.len
  have m1 := r.2.2.1
  have m2 := r.2.1
  unfold maxLen at m1
  obtain ⟨b1, b2, b3⟩ := decAll_bd l
  obtain ⟨x, hx⟩ : ∃ x, decAll l 1024 = x := ⟨_, rfl⟩
  obtain ⟨us, q, f⟩ := x
  rw [hx] at b1 b2 b3
  simp only at b1 b2 b3
  have HX := Lib.hid hx
  have HL := Lib.hid hl
  have HR : Hid (decIx l = if f ≠ 0 then ([], f) else if q ≠ n ∨ us.length % 2 ≠ 0 then ([], 70) else match marksOf ⟨0, 0⟩ us with | none => ([], 70) | some ms => if okN ms then (ms, 0) else ([], 70)) := Lib.hid (by unfold decIx; rw [hx, hl]; rfl)
  clear hx hl
  by_cases hf : f = 0
  · by_cases hq : q = n
    · by_cases hev : us.length % 2 = 0
      · obtain ⟨n2, hn2⟩ : ∃ n2, us.length = 2 * n2 := ⟨us.length / 2, by omega⟩
        have HN := Lib.hid hn2
        have hb2 : n2 ≤ 512 := by omega
        subst hf hq
        clear hev hn2
        go_enter Tryd.func48, Tryd.ntmps48
        go_wp2_with fail
        (with_reducible refine (rdecAll_any _ _ _ l _ _ (.inr (by decide)) r (by decide) (by decide)).mono ?_)
        rintro e w1 ⟨a1, c1, rfl, ho1, hb1⟩
        rw [HX.out] at ho1 ⊢
        simp only at ho1
        rw [HN.out] at ho1 ⊢
        have rU := own_rowAt ho1
        have hmo : ((2 * n2 : Nat) : Int) % 2 = 0 := by omega
        go_wp2_with fail
        have hbx := below_made w1 (.cells [].toArray 67)
        have hs1 := hb1.size
        have hom := own_lit w1 [] 0 2 67 rfl (by decide)
        clear ho1
        go_loopw [7, 8, 9, 10] (fun mv sv av iv wr => ∃ (k : Nat) (p : Mk) (L : List Mk) (a : Option Addr) (cap : Nat), mv = .slice a k cap ∧ sv = .int .i64 p.s ∧ av = .int .i64 p.a ∧ iv = .int .i64 (2 * (k : Int)) ∧ k ≤ n2 ∧
          wr.ownsRow w1.heap.size 67 2 (.slice a k cap) k (L.flatMap Mk.cells) ∧ Hid (L.length = k) ∧ Hid (marksOf ⟨0, 0⟩ us = (marksOf p (us.drop (2 * k))).map (L ++ ·)) ∧ Hid (0 ≤ p.s ∧ p.s ≤ 1099511627776 * (k : Int) ∧ 0 ≤ p.a ∧ p.a ≤ 1099511627776 * (k : Int)) ∧ Below w1.heap.size w1 wr) (fun _ _ _ iv _ => 2 * n2 - (intOf iv).toNat)
        case atStart => exact ⟨0, ⟨0, 0⟩, [], _, _, rfl, rfl, rfl, rfl, Nat.zero_le _, hom, Lib.hid rfl, Lib.hid (by simp), Lib.hid ⟨Int.le_refl _, by simp, Int.le_refl _, by simp⟩, hbx⟩
        case round =>
          clear hom hbx
          obtain ⟨k, p, L, a2, cap, rfl, rfl, rfl, rfl, hk, ho, HLk, HS, HP, hb⟩ := hrel
          by_cases hlt : k < n2
          · have rr := rU.below hb
            obtain ⟨bu, ou, u, rfl, hu, cu⟩ := rr.elem (2 * k) (by omega)
            obtain ⟨bu', ou', v, hbu, hv, cv⟩ := rr.elem (2 * k + 1) (by omega)
            cases hbu
            have HM := Lib.hid (marks_step (p := p) hu hv)
            obtain ⟨p1, p2, p3, p4⟩ := HP.out
            have p5 : p.s ≤ 562949953421312 := by omega
            have p6 : p.a ≤ 562949953421312 := by omega
            clear p2 p4 hu hv
            unfold U at cu cv
            have hu0 : 0 ≤ (u.toNat : Int) := by omega
            have hv0 : 0 ≤ (v.toNat : Int) := by omega
            have hui : ¬ 1099511627776 < (u.toNat : Int) ↔ ¬ 1099511627776 < u.toNat := by omega
            have hvi : ¬ 1099511627776 < (v.toNat : Int) ↔ ¬ 1099511627776 < v.toNat := by omega
            obtain ⟨x, hx⟩ : ∃ x, (u.toNat : Int) = x := ⟨_, rfl⟩
            obtain ⟨y, hy⟩ : ∃ y, (v.toNat : Int) = y := ⟨_, rfl⟩
            rw [hx, hy] at HM
            rw [hx] at cu hu0 hui
            rw [hy] at cv hv0 hvi
            have HUV := Lib.hid (And.intro hui hvi)
            clear hui hvi hx hy
            have kk : (2 * (k : Int)).toNat = 2 * k := by omega
            have kk1 : (2 * (k : Int) + 1).toNat = 2 * k + 1 := by omega
            have hsz := hb.size
            by_cases hxb : 1099511627776 < x
            · have HE : Hid (decIx l = ([], 70)) := Lib.hid (by
                have h1 := HS.out
                rw [HM.out, if_pos (by have := HUV.out; omega)] at h1
                rw [HR.out, if_neg (by omega), if_neg (by have := HN.out; omega), h1]; rfl)
              go_wp2_with fail
              go_ret2
              rw [HE.out]
              exact ⟨none, 0, rfl, World.ownsRow_nil _ _ _ _, below_next hb1 hb⟩
            · by_cases hyb : 1099511627776 < y
              · have HE : Hid (decIx l = ([], 70)) := Lib.hid (by
                  have h1 := HS.out
                  rw [HM.out, if_pos (by have := HUV.out; omega)] at h1
                  rw [HR.out, if_neg (by omega), if_neg (by have := HN.out; omega), h1]; rfl)
                go_wp2_with fail
                go_ret2
                rw [HE.out]
                exact ⟨none, 0, rfl, World.ownsRow_nil _ _ _ _, below_next hb1 hb⟩
              · go_wp2_with (at_builtin; refine wpList_appL 1 rfl _ _ 25 rfl slM rfl ho rfl rfl rfl (by decide) (two1 _ _ _) (by omega) hsz fun a3 c3 w3 hown3 hg3 => ?_)
                go_roundw
                case rel =>
                  refine ⟨k + 1, ⟨p.s + x, p.a + y⟩, L ++ [⟨p.s + x, p.a + y⟩], a3, c3, rfl, rfl, rfl, by go_num, by omega, ?_, Lib.hid (by rw [List.length_append, HLk.out]; rfl), Lib.hid ?_, Lib.hid ?_, hb.grown hg3 (by omega) (own_block ho)⟩
                  · rw [List.flatMap_append]; exact hown3
                  · have h1 := HS.out
                    rw [HM.out, if_neg (by have := HUV.out; omega)] at h1
                    rw [h1, Option.map_map]
                    congr 1
                    funext z
                    simp
                  · have := HP.out
                    show 0 ≤ p.s + x ∧ p.s + x ≤ 1099511627776 * ((k + 1 : Nat) : Int) ∧ 0 ≤ p.a + y ∧ p.a + y ≤ 1099511627776 * ((k + 1 : Nat) : Int)
                    omega
                case measure => simp [intOf]; omega
          · obtain rfl : k = n2 := by omega
            have hlk : ¬ 2 * (k : Int) + 1 < 2 * (k : Int) := by omega
            have hkk : ¬ 2 * k + 1 < 2 * k := by omega
            go_wp2_with fail
            (with_reducible refine (rvalid_any _ _ _ L _ (own_rowAt ho)).mono ?_)
            rintro e w4 ⟨rfl, hst⟩
            have hb4 := hst.below wr.heap.size
            have ho4 := own_below ho hb4
            have hLl := HLk.out
            have hu0 : marksOf p (us.drop (2 * k)) = some [] := by rw [List.drop_eq_nil_of_le (by have := HN.out; omega)]; rfl
            have HE : Hid (decIx l = if okN L then (L, 0) else ([], 70)) := Lib.hid (by
              have h1 := HS.out
              rw [hu0, Option.map_some, List.append_nil] at h1
              rw [HR.out, if_neg (by omega), if_neg (by have := HN.out; omega), h1])
            clear hu0
            by_cases hok : okN L = true
            · have HO := Lib.hid hok
              clear hok
              rw [HO.out]
              go_wp2_with fail
              go_ret2
              rw [HE.out, HO.out]
              exact ⟨a2, cap, by rw [if_pos rfl]; show Ending.returned (.tuple #[.slice a2 k cap, _]) = .returned (.tuple #[.slice a2 L.length cap, _]); rw [hLl]; rfl, by rw [if_pos rfl]; show World.ownsRow _ _ _ _ (.slice a2 L.length cap) L.length _; rw [hLl]; exact own_mono ho4 (by omega), below_next hb1 (below_next hb hb4)⟩
            · have hno : okN L = false := by simpa using hok
              have HO := Lib.hid hno
              clear hno hok
              rw [HO.out]
              go_wp2_with fail
              go_ret2
              rw [HE.out, HO.out]
              exact ⟨none, 0, rfl, World.ownsRow_nil _ _ _ _, below_next hb1 (below_next hb hb4)⟩
      · have HE : Hid (decIx l = ([], 70)) := Lib.hid (by rw [HR.out, if_neg (by omega), if_pos (by omega)])
        have hmo : ((us.length : Nat) : Int) % 2 = 1 := by omega
        subst hf hq
        go_enter Tryd.func48, Tryd.ntmps48
        go_wp2_with fail
        (with_reducible refine (rdecAll_any _ _ _ l _ _ (.inr (by decide)) r (by decide) (by decide)).mono ?_)
        rintro e w1 ⟨a1, c1, rfl, ho1, hb1⟩
        rw [HX.out] at ho1 ⊢
        go_wp2_with fail
        go_ret2
        rw [HE.out]
        exact ⟨none, 0, rfl, World.ownsRow_nil _ _ _ _, hb1⟩
    · have HE : Hid (decIx l = ([], 70)) := Lib.hid (by rw [HR.out, if_neg (by omega), if_pos (by omega)])
      have hqb : ((q : Int) != (n : Int)) = true := by rw [bne_iff_ne]; omega
      subst hf
      go_enter Tryd.func48, Tryd.ntmps48
      go_wp2_with fail
      (with_reducible refine (rdecAll_any _ _ _ l _ _ (.inr (by decide)) r (by decide) (by decide)).mono ?_)
      rintro e w1 ⟨a1, c1, rfl, ho1, hb1⟩
      rw [HX.out] at ho1 ⊢
      go_wp2_with fail
      go_ret2
      rw [HE.out]
      exact ⟨none, 0, rfl, World.ownsRow_nil _ _ _ _, hb1⟩
  · have HE : Hid (decIx l = ([], f)) := Lib.hid (by rw [HR.out, if_pos (by omega)])
    have hqb : ((f : Int) != 0) = true := by rw [bne_iff_ne]; omega
    go_enter Tryd.func48, Tryd.ntmps48
    go_wp2_with fail
    (with_reducible refine (rdecAll_any _ _ _ l _ _ (.inr (by decide)) r (by decide) (by decide)).mono ?_)
    rintro e w1 ⟨a1, c1, rfl, ho1, hb1⟩
    rw [HX.out] at ho1 ⊢
    go_wp2_with fail
    go_ret2
    rw [HE.out]
    exact ⟨none, 0, rfl, World.ownsRow_nil _ _ _ _, hb1⟩
end Go.Proofs.YtffhejaeliphcaaDoor
