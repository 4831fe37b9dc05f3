/-
  The walk of SchemaDecodes, printed by genslaw5.py. Condition: the argument reads as bytes.
-/
import Derived.Test.YtfiplongnnkhmaaMShead
import Derived.Test.YtfiplongnnkhmaaMRunp6
import Derived.Deep.Cut
namespace Go.Proofs.Ytfiplongnnkhmaa
open Go.RowKit
set_option linter.unusedVariables false

set_option maxRecDepth 8000 in
set_option maxHeartbeats 6400000 in
theorem decodes6_walk (a : Option Addr) (n c : Nat) (l : List UInt8) (v : Int) (w : World) (r : RowAt w a n c 1 (l.map B)) (hs : n * 1 ≤ 140737488351232) (v0 : -9223372036854775808 ≤ v) (v1 : v ≤ 9223372036854775807) :
    Calls Try.prog 5 #[.slice a n c, .int .i64 v] w fun x w' => x = .returned (.bool true) ∧ Below w.heap.size w w' := by
  have HH := Lib.hid schead_any
  have hcp := fun wx hx => copy_any a n c l wx (by omega) hx
  unfold GivesB at hcp
  have HCP := Lib.hid hcp
  clear hcp hs v0 v1
  go_enter Try.func5, Try.ntmps5
  go_wp2_with fail
  (with_reducible refine (HH.out _).mono ?_)
  rintro x w1 ⟨rfl, hb1⟩
  have r1 := r.below hb1
  go_wp2_with fail
  (with_reducible refine (HCP.out _ r1).mono ?_)
  rintro x w2 ⟨a2, c2, rfl, ho2, hb2⟩
  have r2 := r1.below hb2
  have m2 := own_rowAt ho2
  have hbm := below_next hb1 hb2
  clear hb1 hb2 ho2 r1 HH HCP
  obtain ⟨n2, hn2⟩ : ∃ n2, l.length = n2 := ⟨_, rfl⟩
  rw [hn2] at m2 ⊢
  clear hn2
  go_wp2_with fail
  go_loopw [6] (fun kv wr => ∃ k : Nat, kv = .int .i64 (k : Int) ∧ k ≤ 7 ∧ RowAt wr a n c 1 (l.map B) ∧ RowAt wr a2 n2 c2 1 (l.map B) ∧ Below w.heap.size w wr) (fun kv _ => 7 - (intOf kv).toNat)
  case atStart => exact ⟨0, rfl, by omega, r2, m2, hbm⟩
  case round =>
    clear r2 m2 hbm
    obtain ⟨k, rfl, hk, r3, m3, hbm⟩ := hrel
    by_cases hlt : k < 7
    · have hr := fun wx hx => rdec6_all (k : Int) a n c l wx hx
      have hd := fun wx hx => sdec_any (k : Int) a2 n2 c2 l wx hx
      obtain ⟨z, hz⟩ : ∃ z, sdecF (k : Int) l = z := ⟨_, rfl⟩
      rw [hz] at hr hd
      obtain ⟨⟨k0, k1, k2, k3, k4, k5, k6, k7, k8, k9⟩, ez⟩ := z
      unfold GivesDE Ev.val Ev.cells at hr hd
      simp only at hr hd
      have HR := Lib.hid hr
      have HD := Lib.hid hd
      clear hz hr hd
      go_wp2_with fail
      (with_reducible refine (HR.out _ r3).mono ?_)
      rintro x w4 ⟨rfl, hb4⟩
      have hbf := below_made w4 (.cells #[.int .i64 k0, .int .i64 k1, .int .i64 k2, .int .i64 k3, .int .i64 k4, .int .i64 k5, .int .i64 k6, .string k7, .int .i64 k8, .string k9] 24)
      have hX := heap_alloc_new w4 (.cells #[.int .i64 k0, .int .i64 k1, .int .i64 k2, .int .i64 k3, .int .i64 k4, .int .i64 k5, .int .i64 k6, .string k7, .int .i64 k8, .string k9] 24)
      have r4 := (r3.below hb4).below hbf
      have m4 := (m3.below hb4).below hbf
      have hbm4 := below_next (below_next hbm hb4) hbf
      have HW := Lib.hid (⟨_, rfl⟩ : ∃ wf, w4.alloc (.cells #[.int .i64 k0, .int .i64 k1, .int .i64 k2, .int .i64 k3, .int .i64 k4, .int .i64 k5, .int .i64 k6, .string k7, .int .i64 k8, .string k9] 24) = wf)
      clear hb4 hbf r3 m3 hbm
      go_upto_region 8 with (fail)
      obtain ⟨w5, hw5⟩ := HW.out
      rw [hw5] at hX r4 m4 hbm4 ⊢
      clear hw5 HW
      go_wp2_with fail
      (with_reducible refine (HD.out _ m4).mono ?_)
      rintro x w6 ⟨rfl, hb6⟩
      have hbf := below_made w6 (.cells #[.int .i64 k0, .int .i64 k1, .int .i64 k2, .int .i64 k3, .int .i64 k4, .int .i64 k5, .int .i64 k6, .string k7, .int .i64 k8, .string k9] 24)
      have hY := heap_alloc_new w6 (.cells #[.int .i64 k0, .int .i64 k1, .int .i64 k2, .int .i64 k3, .int .i64 k4, .int .i64 k5, .int .i64 k6, .string k7, .int .i64 k8, .string k9] 24)
      have hX6 := below_blk' hbf (below_blk' hb6 hX)
      have r6 := (r4.below hb6).below hbf
      have m6 := (m4.below hb6).below hbf
      have hbm6 := below_next (below_next hbm4 hb6) hbf
      have HW := Lib.hid (⟨_, rfl⟩ : ∃ wf, w6.alloc (.cells #[.int .i64 k0, .int .i64 k1, .int .i64 k2, .int .i64 k3, .int .i64 k4, .int .i64 k5, .int .i64 k6, .string k7, .int .i64 k8, .string k9] 24) = wf)
      clear hb6 hbf r4 m4 hbm4 hX
      go_upto_region 9 with (fail)
      obtain ⟨w7, hw7⟩ := HW.out
      rw [hw7] at hX6 hY r6 m6 hbm6 ⊢
      clear hw7 HW
      go_wp2_with (first
        | (with_reducible refine wpList_load_rowG rfl 24 (.tmp 9) rfl w6.heap.size rfl _ #[.int .i64 k0, .int .i64 k1, .int .i64 k2, .int .i64 k3, .int .i64 k4, .int .i64 k5, .int .i64 k6, .string k7, .int .i64 k8, .string k9] (0, 0) _ hY Try.underlying24 rfl (by with_unfolding_all exact info_ev) ?_)
        | (with_reducible refine wpList_load_rowG rfl 24 (.tmp 7) rfl w4.heap.size rfl _ #[.int .i64 k0, .int .i64 k1, .int .i64 k2, .int .i64 k3, .int .i64 k4, .int .i64 k5, .int .i64 k6, .string k7, .int .i64 k8, .string k9] (0, 0) _ hX6 Try.underlying24 rfl (by with_unfolding_all exact info_ev) ?_))
      go_roundw
      case rel => exact ⟨k + 1, by go_num, by omega, r6, m6, hbm6⟩
      case measure => simp [intOf]; omega
    · have hd := fun wx hx => sdec_any v a2 n2 c2 l wx hx
      have hnone : v < 1 ∨ 5 < v → (sdecF v l).2 = 30 := fun h => by unfold sdecF; rw [if_pos h]
      obtain ⟨z, hz⟩ : ∃ z, sdecF v l = z := ⟨_, rfl⟩
      rw [hz] at hd hnone
      obtain ⟨⟨k0, k1, k2, k3, k4, k5, k6, k7, k8, k9⟩, ez⟩ := z
      unfold GivesDE Ev.val Ev.cells at hd
      simp only at hd hnone
      have HD := Lib.hid hd
      have hcase : (v < 1 ∧ Hid (ez = 30)) ∨ (5 < v ∧ Hid (ez = 30)) ∨ (¬ v < 1 ∧ ¬ 5 < v) := by
        by_cases h1 : v < 1
        · exact .inl ⟨h1, Lib.hid (hnone (.inl h1))⟩
        · by_cases h5 : 5 < v
          · exact .inr (.inl ⟨h5, Lib.hid (hnone (.inr h5))⟩)
          · exact .inr (.inr ⟨h1, h5⟩)
      clear hz hd hnone
      rcases hcase with ⟨h1, hez⟩ | ⟨h5, hez⟩ | ⟨h1, h5⟩
      · obtain rfl := hez.out
        have g1 : decide (1 ≤ v) = false := decide_eq_false (by omega)
        clear hez
        go_wp2_with (first
          | ((with_reducible refine (HD.out _ m3).mono ?_); rintro x w4 ⟨rfl, hb4⟩; have r4 := r3.below (below_next hb4 (below_made w4 (.cells #[.int .i64 k0, .int .i64 k1, .int .i64 k2, .int .i64 k3, .int .i64 k4, .int .i64 k5, .int .i64 k6, .string k7, .int .i64 k8, .string k9] 24))); have m4 := m3.below (below_next hb4 (below_made w4 (.cells #[.int .i64 k0, .int .i64 k1, .int .i64 k2, .int .i64 k3, .int .i64 k4, .int .i64 k5, .int .i64 k6, .string k7, .int .i64 k8, .string k9] 24))); have hbm4 := below_next hbm (below_next hb4 (below_made w4 (.cells #[.int .i64 k0, .int .i64 k1, .int .i64 k2, .int .i64 k3, .int .i64 k4, .int .i64 k5, .int .i64 k6, .string k7, .int .i64 k8, .string k9] 24))))
          | (go_at_call 16; refine (same_any _ _ _ l _ _ _ l _ m4 r4).mono ?_; rintro x w5 ⟨rfl, hst⟩; have hbm5 := hbm4.trans (hst.below _); simp only [beq_self_eq_true]))
        go_ret
        exact ⟨rfl, hbm5⟩
      · obtain rfl := hez.out
        have g1 : decide (1 ≤ v) = true := decide_eq_true (by omega)
        have g5 : decide (v ≤ 5) = false := decide_eq_false (by omega)
        clear hez
        go_wp2_with (first
          | ((with_reducible refine (HD.out _ m3).mono ?_); rintro x w4 ⟨rfl, hb4⟩; have r4 := r3.below (below_next hb4 (below_made w4 (.cells #[.int .i64 k0, .int .i64 k1, .int .i64 k2, .int .i64 k3, .int .i64 k4, .int .i64 k5, .int .i64 k6, .string k7, .int .i64 k8, .string k9] 24))); have m4 := m3.below (below_next hb4 (below_made w4 (.cells #[.int .i64 k0, .int .i64 k1, .int .i64 k2, .int .i64 k3, .int .i64 k4, .int .i64 k5, .int .i64 k6, .string k7, .int .i64 k8, .string k9] 24))); have hbm4 := below_next hbm (below_next hb4 (below_made w4 (.cells #[.int .i64 k0, .int .i64 k1, .int .i64 k2, .int .i64 k3, .int .i64 k4, .int .i64 k5, .int .i64 k6, .string k7, .int .i64 k8, .string k9] 24))))
          | (go_at_call 16; refine (same_any _ _ _ l _ _ _ l _ m4 r4).mono ?_; rintro x w5 ⟨rfl, hst⟩; have hbm5 := hbm4.trans (hst.below _); simp only [beq_self_eq_true]))
        go_ret
        exact ⟨rfl, hbm5⟩
      · have g1 : 1 ≤ v := by omega
        have g5 : v ≤ 5 := by omega
        clear h1 h5
        go_wp2_with (first
          | ((with_reducible refine (HD.out _ m3).mono ?_); rintro x w4 ⟨rfl, hb4⟩; have r4 := r3.below (below_next hb4 (below_made w4 (.cells #[.int .i64 k0, .int .i64 k1, .int .i64 k2, .int .i64 k3, .int .i64 k4, .int .i64 k5, .int .i64 k6, .string k7, .int .i64 k8, .string k9] 24))); have m4 := m3.below (below_next hb4 (below_made w4 (.cells #[.int .i64 k0, .int .i64 k1, .int .i64 k2, .int .i64 k3, .int .i64 k4, .int .i64 k5, .int .i64 k6, .string k7, .int .i64 k8, .string k9] 24))); have hbm4 := below_next hbm (below_next hb4 (below_made w4 (.cells #[.int .i64 k0, .int .i64 k1, .int .i64 k2, .int .i64 k3, .int .i64 k4, .int .i64 k5, .int .i64 k6, .string k7, .int .i64 k8, .string k9] 24))))
          | (go_at_call 16; refine (same_any _ _ _ l _ _ _ l _ m4 r4).mono ?_; rintro x w5 ⟨rfl, hst⟩; have hbm5 := hbm4.trans (hst.below _); simp only [beq_self_eq_true]))
        go_ret
        exact ⟨rfl, hbm5⟩
end Go.Proofs.Ytfiplongnnkhmaa
