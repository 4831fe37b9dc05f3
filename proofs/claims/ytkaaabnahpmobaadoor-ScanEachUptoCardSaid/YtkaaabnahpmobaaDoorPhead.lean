/-
  The one answer that the statements of the scan ask first. Condition: the program's table of nibbles holds what its text lays.
-/
import Derived.Test.YtkaaabnahpmobaaDoorPrun
import Derived.Test.YtkaaabnahpmobaaDoorPsame
import Derived.Test.YtkaaabnahpmobaaDoorPlay
import Derived.Test.YtkaaabnahpmobaaDoorPjoin
namespace Go.Proofs.YtkaaabnahpmobaaDoor
open Go.RowKit
set_option linter.unusedVariables false

def headG : List Fr := [⟨1, 5, [0]⟩, ⟨1, 6, [1]⟩]
def headP : List Pc := [⟨0, 21, ⟨1, 5, [0]⟩⟩, ⟨21, 21, ⟨1, 6, [1]⟩⟩]
theorem ph_lay (a b : Option Addr) : layF [⟨1, 5, a, 1, [0]⟩, ⟨1, 6, b, 1, [1]⟩] = layN headG := rfl
theorem ph_right : ∀ g ∈ headG, g.right := by
  intro g hg
  simp [headG] at hg
  rcases hg with rfl | rfl <;> exact ⟨by decide, by decide, by decide, by decide⟩
theorem ph_len : (layN headG).length = 42 := by simp [layN, headG, Fr.bytes_len]
theorem ph_scan : scanF (layN headG) = (headP, 42, 0) := by
  have h := scanF_lay ph_right []
  rw [List.append_nil, scanF_nil, ph_len] at h
  rw [h]
  rfl
theorem ph_run : runF (layN headG) 0 5 1 = ([⟨0, 21, ⟨1, 5, [0]⟩⟩], 21) := by
  unfold runF
  rw [if_neg (by rw [ph_len]; decide), show (0 : Int).toNat = 0 from rfl, List.drop_zero, ph_scan]
  decide

set_option maxHeartbeats 1600000 in
theorem phead_any (w : World) (ht : Tab w) : Calls Tryd.prog 9 #[] w fun e w' => e = .returned (.bool true) ∧ Below w.heap.size w w' := by
  have hL := ph_lay (some ⟨w.heap.size, 0, none⟩) (some ⟨w.heap.size + 1, 0, none⟩)
  have hN := ph_len
  have hS := ph_scan
  have hR := ph_run
  obtain ⟨D, hD⟩ : ∃ D, layN headG = D := ⟨_, rfl⟩
  rw [hD] at hL hN hS hR
  have HL := Lib.hid hL
  have HN := Lib.hid hN
  have HS := Lib.hid hS
  have HR := Lib.hid hR
  clear hL hN hS hR hD
  have hb1 := below_made w (.cells #[.int .u8 0] 5)
  have hb2 := below_made (w.alloc (.cells #[.int .u8 0] 5)) (.cells #[.int .u8 1] 5)
  have hb3 := below_made ((w.alloc (.cells #[.int .u8 0] 5)).alloc (.cells #[.int .u8 1] 5)) (.cells #[.int .i64 1, .int .i64 5, .slice (some ⟨w.heap.size, 0, none⟩) 1 1, .int .i64 1, .int .i64 6, .slice (some ⟨w.heap.size + 1, 0, none⟩) 1 1] 34)
  have r1 : RowAt (w.alloc (.cells #[.int .u8 0] 5)) (some ⟨w.heap.size, 0, none⟩) 1 1 1 (([0] : List UInt8).map B) := rowAt_lit w [.int .u8 0] 1 1 5 rfl (by decide)
  have r2 : RowAt ((w.alloc (.cells #[.int .u8 0] 5)).alloc (.cells #[.int .u8 1] 5)) (some ⟨w.heap.size + 1, 0, none⟩) 1 1 1 (([1] : List UInt8).map B) := by
    have h := rowAt_lit (w.alloc (.cells #[.int .u8 0] 5)) [.int .u8 1] 1 1 5 rfl (by decide)
    rwa [World.size_alloc] at h
  have r3 := rowAt_lit ((w.alloc (.cells #[.int .u8 0] 5)).alloc (.cells #[.int .u8 1] 5)) [.int .i64 1, .int .i64 5, .slice (some ⟨w.heap.size, 0, none⟩) 1 1, .int .i64 1, .int .i64 6, .slice (some ⟨w.heap.size + 1, 0, none⟩) 1 1] 2 3 34 rfl (by decide)
  rw [World.size_alloc, World.size_alloc] at r3
  have hbb := below_next (below_next hb1 hb2) hb3
  have rf : FisRd (some ⟨w.heap.size + 1 + 1, 0, none⟩) 2 2 [⟨1, 5, some ⟨w.heap.size, 0, none⟩, 1, [0]⟩, ⟨1, 6, some ⟨w.heap.size + 1, 0, none⟩, 1, [1]⟩] (((w.alloc (.cells #[.int .u8 0] 5)).alloc (.cells #[.int .u8 1] 5)).alloc (.cells #[.int .i64 1, .int .i64 5, .slice (some ⟨w.heap.size, 0, none⟩) 1 1, .int .i64 1, .int .i64 6, .slice (some ⟨w.heap.size + 1, 0, none⟩) 1 1] 34)) := by
    refine ⟨r3, ?_⟩
    intro x hx
    simp at hx
    rcases hx with rfl | rfl
    · exact (r1.below hb2).below hb3
    · exact r2.below hb3
  have t1 := ht.below hbb
  clear r1 r2 r3 hb1 hb2 hb3
  go_enter Tryd.func9, Tryd.ntmps9
  go_wp2_with fail
  (with_reducible refine (play_any _ _ _ _ _ (by decide) rf).mono ?_)
  rintro e w1 ⟨a1, c1, rfl, ho1, hb1⟩
  rw [HL.out, HN.out] at ho1 ⊢
  have t2 := t1.below hb1
  have r1 := own_rowAt ho1
  have hb2 := below_next hbb hb1
  clear ho1 hbb hb1 rf t1
  go_wp2_with fail
  (with_reducible refine (sall_any _ _ _ D _ (by decide) r1 t2).mono ?_)
  rintro e w2 ⟨xs, a2, c2, hxq, rfl, hps, hb3⟩
  rw [HS.out] at hxq ⊢
  simp only at hxq ⊢
  have hl2 : xs.length = 2 := by have := congrArg List.length hxq; rw [List.length_map] at this; exact this
  rw [hl2] at hps ⊢
  have rp := hps.rd hl2
  have r2 := r1.below hb3
  have t3 := t2.below hb3
  have hb4 := below_next hb2 hb3
  clear hps r1 t2 hb2 hb3
  go_wp2_with fail
  (with_reducible refine (srun_any _ _ _ D 0 5 1 _ (by decide) r2 t3).mono ?_)
  rintro e w3 ⟨ys, a3, c3, hyq, rfl, hqs, hb5⟩
  rw [HR.out] at hyq ⊢
  simp only at hyq ⊢
  have hl3 : ys.length = 1 := by have := congrArg List.length hyq; rw [List.length_map] at this; exact this
  rw [hl3] at hqs ⊢
  obtain ⟨b, o, x, rfl, hx, p0, p1, p2, p3, p4, px⟩ := (rp.below hb5).at 1 (by decide)
  have hx21 : x.q.at' = 21 := by
    have h : (xs.map It.q)[1]? = headP[1]? := by rw [hxq]
    rw [List.getElem?_map, hx] at h
    have h2 := Option.some.inj (h : some x.q = some ⟨21, 21, ⟨1, 6, [1]⟩⟩)
    rw [h2]
  rw [hx21] at p0
  have hb6 := below_next hb4 hb5
  clear hqs rp hxq hyq hl2 hl3 hx hx21 p1 p2 p3 p4 px r2 t3
  go_wp2_with fail
  go_ret
  exact ⟨rfl, hb6⟩
end Go.Proofs.YtkaaabnahpmobaaDoor
