/-
  The walk of SchemaUnlike, printed by genslaw8.py. No condition.
-/
import Derived.Test.YtfiplongnnkhmaaMShead
import Derived.Test.YtfiplongnnkhmaaMSinv3
import Derived.Deep.Cut
namespace Go.Proofs.Ytfiplongnnkhmaa
open Go.RowKit
set_option linter.unusedVariables false

theorem bytes_inj2 {a b : ByteArray} (h : a.toList = b.toList) : a = b := by
  rw [ByteArray.toList_eq, ByteArray.toList_eq] at h
  obtain ⟨⟨a⟩⟩ := a
  obtain ⟨⟨b⟩⟩ := b
  have h' : a = b := h
  rw [h']

set_option maxRecDepth 8000 in
set_option maxHeartbeats 6400000 in
theorem unlike6_walk (v u : Int) (ev : Value) (e : Ev) (fv : Value) (f : Ev) (w : World) (v0 : -9223372036854775808 ≤ v) (v1 : v ≤ 9223372036854775807) (u0 : -9223372036854775808 ≤ u) (u1 : u ≤ 9223372036854775807) (he : ev = e.val ∧ e.ok) (hf : fv = f.val ∧ f.ok) :
    Calls Try.prog 9 #[.int .i64 v, .int .i64 u, ev, fv] w fun x w' => x = .returned (.bool true) ∧ Below w.heap.size w w' := by
  obtain ⟨rfl, -⟩ := he
  obtain ⟨rfl, -⟩ := hf
  have hp := fun wx => pack_any v e wx
  have hq := fun wx => pack_any u f wx
  have hone := @pack_one v u e f
  obtain ⟨k0, k1, k2, k3, k4, k5, k6, k7, k8, k9⟩ := e
  obtain ⟨j0, j1, j2, j3, j4, j5, j6, j7, j8, j9⟩ := f
  obtain ⟨ck, hck⟩ : ∃ ck, chk v ⟨k0, k1, k2, k3, k4, k5, k6, k7, k8, k9⟩ = ck := ⟨_, rfl⟩
  obtain ⟨cj, hcj⟩ : ∃ cj, chk u ⟨j0, j1, j2, j3, j4, j5, j6, j7, j8, j9⟩ = cj := ⟨_, rfl⟩
  obtain ⟨L, hL⟩ : ∃ L, packL v ⟨k0, k1, k2, k3, k4, k5, k6, k7, k8, k9⟩ = L := ⟨_, rfl⟩
  obtain ⟨M, hM⟩ : ∃ M, packL u ⟨j0, j1, j2, j3, j4, j5, j6, j7, j8, j9⟩ = M := ⟨_, rfl⟩
  unfold GivesP at hp hq
  rw [hck, hL] at hp
  rw [hcj, hM] at hq
  rw [hck, hcj, hL, hM] at hone
  unfold Ev.val Ev.cells at hp hq ⊢
  have HP := Lib.hid hp
  have HQ := Lib.hid hq
  have HH := Lib.hid schead_any
  have hbm := below_next (below_made w (.cells #[.int .i64 k0, .int .i64 k1, .int .i64 k2, .int .i64 k3, .int .i64 k4, .int .i64 k5, .int .i64 k6, .string k7, .int .i64 k8, .string k9] 24)) (below_made (w.alloc (.cells #[.int .i64 k0, .int .i64 k1, .int .i64 k2, .int .i64 k3, .int .i64 k4, .int .i64 k5, .int .i64 k6, .string k7, .int .i64 k8, .string k9] 24)) (.cells #[.int .i64 j0, .int .i64 j1, .int .i64 j2, .int .i64 j3, .int .i64 j4, .int .i64 j5, .int .i64 j6, .string j7, .int .i64 j8, .string j9] 24))
  have hE := below_blk' (below_made (w.alloc (.cells #[.int .i64 k0, .int .i64 k1, .int .i64 k2, .int .i64 k3, .int .i64 k4, .int .i64 k5, .int .i64 k6, .string k7, .int .i64 k8, .string k9] 24)) (.cells #[.int .i64 j0, .int .i64 j1, .int .i64 j2, .int .i64 j3, .int .i64 j4, .int .i64 j5, .int .i64 j6, .string j7, .int .i64 j8, .string j9] 24)) (heap_alloc_new w (.cells #[.int .i64 k0, .int .i64 k1, .int .i64 k2, .int .i64 k3, .int .i64 k4, .int .i64 k5, .int .i64 k6, .string k7, .int .i64 k8, .string k9] 24))
  have hF := heap_alloc_new (w.alloc (.cells #[.int .i64 k0, .int .i64 k1, .int .i64 k2, .int .i64 k3, .int .i64 k4, .int .i64 k5, .int .i64 k6, .string k7, .int .i64 k8, .string k9] 24)) (.cells #[.int .i64 j0, .int .i64 j1, .int .i64 j2, .int .i64 j3, .int .i64 j4, .int .i64 j5, .int .i64 j6, .string j7, .int .i64 j8, .string j9] 24)
  have hsz : (w.alloc (.cells #[.int .i64 k0, .int .i64 k1, .int .i64 k2, .int .i64 k3, .int .i64 k4, .int .i64 k5, .int .i64 k6, .string k7, .int .i64 k8, .string k9] 24)).heap.size = w.heap.size + 1 := by simp
  rw [hsz] at hF
  have HW := Lib.hid (⟨_, rfl⟩ : ∃ w0, (w.alloc (.cells #[.int .i64 k0, .int .i64 k1, .int .i64 k2, .int .i64 k3, .int .i64 k4, .int .i64 k5, .int .i64 k6, .string k7, .int .i64 k8, .string k9] 24)).alloc (.cells #[.int .i64 j0, .int .i64 j1, .int .i64 j2, .int .i64 j3, .int .i64 j4, .int .i64 j5, .int .i64 j6, .string j7, .int .i64 j8, .string j9] 24) = w0)
  have hcase : (ck ≠ 0) ∨ (ck = 0 ∧ cj ≠ 0) ∨ (ck = 0 ∧ cj = 0) := by omega
  have HONE := Lib.hid hone
  have HLM : Hid (v = u → (⟨k0, k1, k2, k3, k4, k5, k6, k7, k8, k9⟩ : Ev) = ⟨j0, j1, j2, j3, j4, j5, j6, j7, j8, j9⟩ → L = M) := Lib.hid (fun a b => by rw [← hL, ← hM, a, b])
  clear hp hq hck hcj hL hM hsz v0 v1 u0 u1 hone
  rcases hcase with h | ⟨rfl, h⟩ | ⟨rfl, rfl⟩
  · have h' : (ck != 0) = true := by rw [bne_iff_ne]; exact h
    clear h
    go_enter Try.func9, Try.ntmps9
    go_upto_region 1 with (fail)
    obtain ⟨w0, hw0⟩ := HW.out
    rw [hw0] at hbm hE hF ⊢
    clear hw0 HW
    go_wp2_with (first
      | (with_reducible refine wpList_load_row rfl 24 (.tmp 6) rfl w.heap.size rfl _ #[.int .i64 k0, .int .i64 k1, .int .i64 k2, .int .i64 k3, .int .i64 k4, .int .i64 k5, .int .i64 k6, .string k7, .int .i64 k8, .string k9] (0, 0) _ hE Try.underlying24 rfl (by with_unfolding_all exact info_ev) ?_)
      | (with_reducible refine wpList_load_row rfl 24 (.tmp 7) rfl (w.heap.size + 1) rfl _ #[.int .i64 j0, .int .i64 j1, .int .i64 j2, .int .i64 j3, .int .i64 j4, .int .i64 j5, .int .i64 j6, .string j7, .int .i64 j8, .string j9] (0, 0) _ hF Try.underlying24 rfl (by with_unfolding_all exact info_ev) ?_)
      | ((with_reducible refine (HH.out _).mono ?_); rintro x w1 ⟨rfl, hb1⟩; have hE := below_blk' hb1 hE; have hF := below_blk' hb1 hF; have hbm := below_next hbm hb1)
      | ((with_reducible refine (HP.out _).mono ?_); rintro x w2 ⟨a2, c2, l2, rfl, rfl, ho2, hb1⟩; have hE := below_blk' hb1 hE; have hF := below_blk' hb1 hF; have hbm := below_next hbm hb1; have r2 := own_rowAt ho2))
    (with_reducible refine (HQ.out _).mono ?_)
    rintro x w3 ⟨a3, c3, l3, rfl, rfl, ho3, hb3⟩
    have hE3 := below_blk' hb3 hE
    have hF3 := below_blk' hb3 hF
    have hbm3 := below_next hbm hb3
    have r2 := r2.below hb3
    have r3 := own_rowAt ho3
    go_wp2_with fail
    go_ret
    exact ⟨rfl, hbm3⟩
  · have h' : (cj != 0) = true := by rw [bne_iff_ne]; exact h
    clear h
    go_enter Try.func9, Try.ntmps9
    go_upto_region 1 with (fail)
    obtain ⟨w0, hw0⟩ := HW.out
    rw [hw0] at hbm hE hF ⊢
    clear hw0 HW
    go_wp2_with (first
      | (with_reducible refine wpList_load_row rfl 24 (.tmp 6) rfl w.heap.size rfl _ #[.int .i64 k0, .int .i64 k1, .int .i64 k2, .int .i64 k3, .int .i64 k4, .int .i64 k5, .int .i64 k6, .string k7, .int .i64 k8, .string k9] (0, 0) _ hE Try.underlying24 rfl (by with_unfolding_all exact info_ev) ?_)
      | (with_reducible refine wpList_load_row rfl 24 (.tmp 7) rfl (w.heap.size + 1) rfl _ #[.int .i64 j0, .int .i64 j1, .int .i64 j2, .int .i64 j3, .int .i64 j4, .int .i64 j5, .int .i64 j6, .string j7, .int .i64 j8, .string j9] (0, 0) _ hF Try.underlying24 rfl (by with_unfolding_all exact info_ev) ?_)
      | ((with_reducible refine (HH.out _).mono ?_); rintro x w1 ⟨rfl, hb1⟩; have hE := below_blk' hb1 hE; have hF := below_blk' hb1 hF; have hbm := below_next hbm hb1)
      | ((with_reducible refine (HP.out _).mono ?_); rintro x w2 ⟨a2, c2, l2, rfl, rfl, ho2, hb1⟩; have hE := below_blk' hb1 hE; have hF := below_blk' hb1 hF; have hbm := below_next hbm hb1; have r2 := own_rowAt ho2))
    (with_reducible refine (HQ.out _).mono ?_)
    rintro x w3 ⟨a3, c3, l3, rfl, rfl, ho3, hb3⟩
    have hE3 := below_blk' hb3 hE
    have hF3 := below_blk' hb3 hF
    have hbm3 := below_next hbm hb3
    have r2 := r2.below hb3
    have r3 := own_rowAt ho3
    go_wp2_with fail
    go_ret
    exact ⟨rfl, hbm3⟩
  · go_enter Try.func9, Try.ntmps9
    go_upto_region 1 with (fail)
    obtain ⟨w0, hw0⟩ := HW.out
    rw [hw0] at hbm hE hF ⊢
    clear hw0 HW
    go_wp2_with (first
      | (with_reducible refine wpList_load_row rfl 24 (.tmp 6) rfl w.heap.size rfl _ #[.int .i64 k0, .int .i64 k1, .int .i64 k2, .int .i64 k3, .int .i64 k4, .int .i64 k5, .int .i64 k6, .string k7, .int .i64 k8, .string k9] (0, 0) _ hE Try.underlying24 rfl (by with_unfolding_all exact info_ev) ?_)
      | (with_reducible refine wpList_load_row rfl 24 (.tmp 7) rfl (w.heap.size + 1) rfl _ #[.int .i64 j0, .int .i64 j1, .int .i64 j2, .int .i64 j3, .int .i64 j4, .int .i64 j5, .int .i64 j6, .string j7, .int .i64 j8, .string j9] (0, 0) _ hF Try.underlying24 rfl (by with_unfolding_all exact info_ev) ?_)
      | ((with_reducible refine (HH.out _).mono ?_); rintro x w1 ⟨rfl, hb1⟩; have hE := below_blk' hb1 hE; have hF := below_blk' hb1 hF; have hbm := below_next hbm hb1)
      | ((with_reducible refine (HP.out _).mono ?_); rintro x w2 ⟨a2, c2, l2, rfl, rfl, ho2, hb1⟩; have hE := below_blk' hb1 hE; have hF := below_blk' hb1 hF; have hbm := below_next hbm hb1; have r2 := own_rowAt ho2))
    (with_reducible refine (HQ.out _).mono ?_)
    rintro x w3 ⟨a3, c3, l3, rfl, rfl, ho3, hb3⟩
    have hE3 := below_blk' hb3 hE
    have hF3 := below_blk' hb3 hF
    have hbm3 := below_next hbm hb3
    have r2 := r2.below hb3
    have r3 := own_rowAt ho3
    by_cases hLM : L = M
    · obtain ⟨rfl, heq⟩ := HONE.out (by first | rfl | trivial) (by first | rfl | trivial) hLM
      injection heq with g0 g1 g2 g3 g4 g5 g6 g7 g8 g9
      subst hLM g0 g1 g2 g3 g4 g5 g6 g7 g8 g9
      go_wp2_with (first
        | (with_reducible refine wpList_load_rowG rfl 24 (.tmp 6) rfl w.heap.size rfl _ #[.int .i64 k0, .int .i64 k1, .int .i64 k2, .int .i64 k3, .int .i64 k4, .int .i64 k5, .int .i64 k6, .string k7, .int .i64 k8, .string k9] (0, 0) _ hE3 Try.underlying24 rfl (by with_unfolding_all exact info_ev) ?_)
        | (with_reducible refine wpList_load_rowG rfl 24 (.tmp 7) rfl (w.heap.size + 1) rfl _ #[.int .i64 k0, .int .i64 k1, .int .i64 k2, .int .i64 k3, .int .i64 k4, .int .i64 k5, .int .i64 k6, .string k7, .int .i64 k8, .string k9] (0, 0) _ hF3 Try.underlying24 rfl (by with_unfolding_all exact info_ev) ?_)
        | (go_at_call 16; refine (same_any _ _ _ L _ _ _ L _ r2 r3).mono ?_; rintro x w5 ⟨rfl, hst⟩; have hE3 := below_blk' (hst.below _) hE3; have hF3 := below_blk' (hst.below _) hF3; have hbm3 := hbm3.trans (hst.below _); simp only [beq_self_eq_true]))
      go_ret
      exact ⟨rfl, hbm3⟩
    · have hbq : (L == M) = false := by rw [beq_eq_false_iff_ne]; exact hLM
      have HBQ := Lib.hid hbq
      clear hbq
      by_cases hvu : v = u
      · subst hvu
        have hne : (⟨k0, k1, k2, k3, k4, k5, k6, k7, k8, k9⟩ : Ev) ≠ ⟨j0, j1, j2, j3, j4, j5, j6, j7, j8, j9⟩ := fun q => hLM (HLM.out rfl q)
        have HNE := Lib.hid hne
        clear hne hLM
        go_wp2_with (first
          | (with_reducible refine wpList_load_rowG rfl 24 (.tmp 6) rfl w.heap.size rfl _ #[.int .i64 k0, .int .i64 k1, .int .i64 k2, .int .i64 k3, .int .i64 k4, .int .i64 k5, .int .i64 k6, .string k7, .int .i64 k8, .string k9] (0, 0) _ hE3 Try.underlying24 rfl (by with_unfolding_all exact info_ev) ?_)
          | (with_reducible refine wpList_load_rowG rfl 24 (.tmp 7) rfl (w.heap.size + 1) rfl _ #[.int .i64 j0, .int .i64 j1, .int .i64 j2, .int .i64 j3, .int .i64 j4, .int .i64 j5, .int .i64 j6, .string j7, .int .i64 j8, .string j9] (0, 0) _ hF3 Try.underlying24 rfl (by with_unfolding_all exact info_ev) ?_)
          | (go_at_call 16; refine (same_any _ _ _ L _ _ _ M _ r2 r3).mono ?_; rintro x w5 ⟨rfl, hst⟩; have hE3 := below_blk' (hst.below _) hE3; have hF3 := below_blk' (hst.below _) hF3; have hbm3 := hbm3.trans (hst.below _); rw [HBQ.out]))
        all_goals
          first
          | (go_ret; exact ⟨rfl, hbm3⟩)
          | exact absurd rfl HNE.out
          | (refine absurd ?_ HNE.out; congr 1 <;> first | rfl | assumption | exact bytes_inj2 (by assumption))
      · have hvu' : (v == u) = false := by rw [beq_eq_false_iff_ne]; exact hvu
        clear hLM hvu
        go_wp2_with (go_at_call 16; refine (same_any _ _ _ L _ _ _ M _ r2 r3).mono ?_; rintro x w5 ⟨rfl, hst⟩; have hbm3 := hbm3.trans (hst.below _); rw [HBQ.out])
        go_ret
        exact ⟨rfl, hbm3⟩
end Go.Proofs.Ytfiplongnnkhmaa
