/-
  The walks of IndexSeeks, IndexBack and IndexOneForm. Conditions: arguments read as their types say, within the form's own reach.
-/
import Derived.Test.YtgdepgfipocdcaaIhead
import Derived.Test.YtgdepgfipocdcaaIrdec
import Derived.Test.YtgdepgfipocdcaaIrenc
import Derived.Test.YtgdepgfipocdcaaIplain
namespace Go.Proofs.Ytgdepgfipocdcaa
open Go.RowKit
set_option linter.unusedVariables false

theorem foundV_some {ms : List Mk} {l : Nat} : ∃ s a, foundV ms l = .tuple #[.agg #[.int .i64 s, .int .i64 a], .bool (decide (0 < l))] := by
  unfold foundV
  by_cases h : l = 0
  · rw [if_pos h, decide_eq_false (by omega)]; exact ⟨0, 0, rfl⟩
  · rw [if_neg h, decide_eq_true (by omega)]; exact ⟨_, _, rfl⟩

set_option maxHeartbeats 800000 in
theorem seeks_walk (a : Option Addr) (n c : Nat) (ms : List Mk) (t : Int) (w : World) (r : RowAt w a n c 2 (ms.flatMap Mk.cells)) (hs : n * 16 ≤ 140737488351232) (h0 : -9223372036854775808 ≤ t) (h1 : t ≤ 9223372036854775807) :
    Calls Try.prog 4 #[.slice a n c, .int .i64 t] w fun e w' => e = .returned (.bool true) ∧ Below w.heap.size w w' := by
  have hml : ms.length = n := by have := r.1; rw [M_len] at this; omega
  have HL := Lib.hid hml
  go_enter Try.func4, Try.ntmps4
  clear hml
  go_wp2_with fail
  (with_reducible refine (head_any _).mono ?_)
  rintro e w1 ⟨rfl, hb1⟩
  have r1 := r.below hb1
  go_wp2_with fail
  (with_reducible refine (rvalid_any _ _ _ ms _ r1).mono ?_)
  rintro e w2 ⟨rfl, hst2⟩
  have r2 := r1.still hst2
  have hb2 := below_still hb1 hst2
  clear hb1 hst2 r1
  by_cases hok : okN ms = true
  · have HO := Lib.hid hok
    clear hok
    rw [HO.out]
    go_wp2_with fail
    (with_reducible refine (mcopy_any _ _ _ ms _ (by omega) r2).mono ?_)
    rintro e w3 ⟨a3, c3, rfl, ho3, hb3⟩
    rw [HL.out] at ho3 ⊢
    have r3 := own_rowAt ho3
    have rm := r2.below hb3
    have hb4 := below_next hb2 hb3
    clear ho3 hb2 hb3 r2
    go_wp2_with fail
    (with_reducible refine (rseek_any _ _ _ ms t _ rm).mono ?_)
    rintro e w5 ⟨⟨l, rfl, hl⟩, hb5⟩
    obtain ⟨s, a', hv⟩ := foundV_some (ms := ms) (l := l)
    have HV := Lib.hid hv
    have HS := Lib.hid hl
    rw [hv]
    clear hv hl
    have r5 := r3.below hb5
    have rn := rm.below hb5
    have hb6 := below_next hb4 hb5
    clear r3 rm hb4 hb5
    go_wp2_with fail
    have hk := below_made w5 (.cells #[.int .i64 s, .int .i64 a'] 31)
    have h0 := heap_alloc_new w5 (.cells #[.int .i64 s, .int .i64 a'] 31)
    have hsz : w5.heap.size < (w5.alloc (.cells #[.int .i64 s, .int .i64 a'] 31)).heap.size := by simp
    have r6 := r5.below hk
    have rk := rn.below hk
    have hb7 := below_next hb6 hk
    obtain ⟨w6, hw6⟩ : ∃ w6, (w5.alloc (.cells #[.int .i64 s, .int .i64 a'] 31)) = w6 := ⟨_, rfl⟩
    rw [hw6] at h0 hsz r6 rk hb7 ⊢
    clear hw6 hk r5 rn hb6
    (with_reducible refine (seek_any _ _ _ ms t _ r6 (by omega)).mono ?_)
    rintro e w7 ⟨⟨l', rfl, hl'⟩, hb8⟩
    obtain rfl := seek_same ((okN_iff ms).1 HO.out).2.2 HL.out hl' HS.out
    rw [HV.out]
    have h7 := (hb8.block _ hsz).trans h0
    have g0 := cell_two0 h7
    have g1 := cell_two1 h7
    have r8 := r6.below hb8
    have rj := rk.below hb8
    have hb9 := below_next hb7 hb8
    have hsz7 := hb8.size
    clear h0 r6 rk hb7 hb8 hl' h7
    have ha0 : (w7.alloc (.cells #[.int .i64 s, .int .i64 a'] 31)).cell? ⟨w5.heap.size, 0, none⟩ = some (.int .i64 s) := (World.cell?_of_block ((below_made w7 _).block _ (by show w5.heap.size < _; omega))).trans g0
    have ha1 : (w7.alloc (.cells #[.int .i64 s, .int .i64 a'] 31)).cell? ⟨w5.heap.size, 1, none⟩ = some (.int .i64 a') := (World.cell?_of_block ((below_made w7 _).block _ (by show w5.heap.size < _; omega))).trans g1
    have hbz := below_made w7 (.cells #[.int .i64 s, .int .i64 a'] 31)
    have r9 := r8.below hbz
    have ri := rj.below hbz
    have hb10 := below_next hb9 hbz
    clear hbz r8 rj hb9
    go_wp2_with fail
    (with_reducible refine (rmsame_any _ _ _ ms _ _ _ ms _ r9 ri).mono ?_)
    rintro e w11 ⟨rfl, hst⟩
    rw [decide_eq_true rfl]
    go_wp2_with fail
    go_ret
    exact ⟨rfl, below_still hb10 hst⟩
  · have hno : okN ms = false := by simpa using hok
    have HO := Lib.hid hno
    clear hno hok
    rw [HO.out]
    go_wp2_with fail
    (with_reducible refine (mcopy_any _ _ _ ms _ (by omega) r2).mono ?_)
    rintro e w3 ⟨a3, c3, rfl, ho3, hb3⟩
    rw [HL.out] at ho3 ⊢
    have r3 := own_rowAt ho3
    go_wp2_with fail
    (with_reducible refine (valid_any _ _ _ ms _ r3).mono ?_)
    rintro e w4 ⟨rfl, hb4⟩
    rw [HO.out]
    go_wp2_with fail
    go_ret
    exact ⟨rfl, below_next hb2 (below_next hb3 hb4)⟩

set_option maxHeartbeats 800000 in
theorem back_walk (a : Option Addr) (n c : Nat) (ms : List Mk) (w : World) (r : RowAt w a n c 2 (ms.flatMap Mk.cells)) (hs : n * 16 ≤ 140737488351232) :
    Calls Try.prog 8 #[.slice a n c] w fun e w' => e = .returned (.bool true) ∧ Below w.heap.size w w' := by
  have hml : ms.length = n := by have := r.1; rw [M_len] at this; omega
  have HL := Lib.hid hml
  clear hml
  go_enter Try.func8, Try.ntmps8
  go_wp2_with fail
  (with_reducible refine (head_any _).mono ?_)
  rintro e w1 ⟨rfl, hb1⟩
  have r1 := r.below hb1
  go_wp2_with fail
  (with_reducible refine (mcopy_any _ _ _ ms _ (by omega) r1).mono ?_)
  rintro e w2 ⟨a2, c2, rfl, ho2, hb2⟩
  rw [HL.out] at ho2 ⊢
  have r2 := own_rowAt ho2
  have rm := r1.below hb2
  have hb3 := below_next hb1 hb2
  clear ho2 hb1 hb2 r1
  go_wp2_with fail
  (with_reducible refine (ienc_any _ _ _ ms _ r2).mono ?_)
  rintro e w3 ⟨a3, c3, rfl, ho3, hb4⟩
  have r3 := own_rowAt ho3
  have rn := rm.below hb4
  have hb5 := below_next hb3 hb4
  clear ho3 hb3 hb4 rm r2
  by_cases hok : okN ms = true
  · have HO := Lib.hid hok
    have HE : Hid (encIx ms = (encAll (diffs ⟨0, 0⟩ ms), 0)) := Lib.hid (by unfold encIx; rw [if_pos hok])
    have HD := Lib.hid (ix_back hok)
    clear hok
    rw [HE.out] at r3 ⊢
    obtain ⟨D, hD⟩ : ∃ D, encAll (diffs ⟨0, 0⟩ ms) = D := ⟨_, rfl⟩
    rw [hD] at HD
    simp only [hD] at r3 ⊢
    clear hD HE
    go_wp2_with fail
    (with_reducible refine (mcopy_any _ _ _ ms _ (by omega) rn).mono ?_)
    rintro e w4 ⟨a4, c4, rfl, ho4, hb6⟩
    rw [HL.out] at ho4 ⊢
    have r4 := own_rowAt ho4
    have r5 := r3.below hb6
    have ro := rn.below hb6
    have hb7 := below_next hb5 hb6
    clear ho4 hb6 hb5 r3 rn
    go_wp2_with fail
    (with_reducible refine (valid_any _ _ _ ms _ r4).mono ?_)
    rintro e w5 ⟨rfl, hb8⟩
    rw [HO.out]
    have r6 := r5.below hb8
    have rp := ro.below hb8
    have hb9 := below_next hb7 hb8
    clear hb7 hb8 r4 r5 ro
    go_wp2_with fail
    (with_reducible refine (idec_any _ _ _ D _ r6).mono ?_)
    rintro e w6 ⟨a6, c6, rfl, ho6, hb10⟩
    rw [HD.out] at ho6 ⊢
    simp only at ho6 ⊢
    rw [HL.out] at ho6 ⊢
    have r7 := own_rowAt ho6
    have rq := rp.below hb10
    have hb11 := below_next hb9 hb10
    clear hb9 hb10 ho6 r6 rp
    go_wp2_with fail
    (with_reducible refine (rmsame_any _ _ _ ms _ _ _ ms _ r7 rq).mono ?_)
    rintro e w7 ⟨rfl, hst⟩
    rw [decide_eq_true rfl]
    go_wp2_with fail
    go_ret
    exact ⟨rfl, below_still hb11 hst⟩
  · have hno : okN ms = false := by simpa using hok
    have HO := Lib.hid hno
    have HE : Hid (encIx ms = ([], 70)) := Lib.hid (by unfold encIx; rw [if_neg hok])
    clear hno hok
    rw [HE.out] at r3 ⊢
    go_wp2_with fail
    (with_reducible refine (mcopy_any _ _ _ ms _ (by omega) rn).mono ?_)
    rintro e w4 ⟨a4, c4, rfl, ho4, hb6⟩
    rw [HL.out] at ho4 ⊢
    have r4 := own_rowAt ho4
    have hb7 := below_next hb5 hb6
    clear ho4 hb6 hb5 r3 rn
    go_wp2_with fail
    (with_reducible refine (valid_any _ _ _ ms _ r4).mono ?_)
    rintro e w5 ⟨rfl, hb8⟩
    rw [HO.out]
    go_wp2_with fail
    go_ret
    exact ⟨rfl, below_next hb7 hb8⟩

set_option maxHeartbeats 800000 in
theorem oneform_walk (a : Option Addr) (n c : Nat) (l : List UInt8) (w : World) (r : RowAt w a n c 1 (l.map B)) (hs : n * 1 ≤ 140737488351232) :
    Calls Try.prog 9 #[.slice a n c] w fun e w' => e = .returned (.bool true) ∧ Below w.heap.size w w' := by
  have hml : l.length = n := by simpa using r.len
  have HL := Lib.hid hml
  clear hml
  go_enter Try.func9, Try.ntmps9
  go_wp2_with fail
  (with_reducible refine (head_any _).mono ?_)
  rintro e w1 ⟨rfl, hb1⟩
  have r1 := r.below hb1
  go_wp2_with fail
  (with_reducible refine (copy_any _ _ _ l _ (by omega) r1).mono ?_)
  rintro e w2 ⟨a2, c2, rfl, ho2, hb2⟩
  rw [HL.out] at ho2 ⊢
  have r2 := own_rowAt ho2
  have rm := r1.below hb2
  have hb3 := below_next hb1 hb2
  clear ho2 hb1 hb2 r1
  go_wp2_with fail
  (with_reducible refine (idec_any _ _ _ l _ r2).mono ?_)
  rintro e w3 ⟨a3, c3, rfl, ho3, hb4⟩
  have r3 := own_rowAt ho3
  have rn := rm.below hb4
  have hb5 := below_next hb3 hb4
  clear ho3 hb3 hb4 rm r2
  obtain ⟨x, hx⟩ : ∃ x, decIx l = x := ⟨_, rfl⟩
  have h1 := ix_one (l := l)
  have h2 := ix_err (l := l)
  rw [hx] at h1 h2 r3
  simp only [hx]
  obtain ⟨ms, f⟩ := x
  simp only at h1 h2 r3 ⊢
  clear hx
  by_cases hf : f = 0
  · subst hf
    obtain ⟨h3, h4⟩ := h1 rfl
    have HO := Lib.hid h3
    have HE := Lib.hid h4
    clear h1 h2 h3 h4
    go_wp2_with fail
    (with_reducible refine (ienc_any _ _ _ ms _ r3).mono ?_)
    rintro e w4 ⟨a4, c4, rfl, ho4, hb6⟩
    rw [HE.out] at ho4 ⊢
    simp only at ho4 ⊢
    have r4 := own_rowAt ho4
    have r5 := r3.below hb6
    have ro := rn.below hb6
    have hb7 := below_next hb5 hb6
    clear ho4 hb6 hb5 r3 rn
    go_wp2_with fail
    (with_reducible refine (valid_any _ _ _ ms _ r5).mono ?_)
    rintro e w5 ⟨rfl, hb8⟩
    rw [HO.out]
    have r6 := r4.below hb8
    have rp := ro.below hb8
    have hb9 := below_next hb7 hb8
    clear hb7 hb8 r4 r5 ro
    go_wp2_with fail
    (with_reducible refine (same_any _ _ _ l _ _ _ l _ r6 rp).mono ?_)
    rintro e w6 ⟨rfl, hst⟩
    rw [beq_self_eq_true]
    go_wp2_with fail
    go_ret
    exact ⟨rfl, below_still hb9 hst⟩
  · have hfb : ((f : Int) != 0) = true := by rw [bne_iff_ne]; omega
    obtain rfl := h2 hf
    clear h1 h2
    go_wp2_with fail
    go_ret
    exact ⟨rfl, hb5⟩
end Go.Proofs.Ytgdepgfipocdcaa
