/-
  The walks of Check at any event of version 4, path by path, printed by gencheck.py. No condition.
-/
import Derived.Test.YtkdpingniohfhaaDoorMFk
import Derived.Test.YtkdpingniohfhaaDoorMSty
import Derived.Deep.RegionHeld3
import Derived.Deep.RegionWith
import Derived.Deep.QuietTactic
import Derived.BigQuiet
namespace Go.Proofs.YtkdpingniohfhaaDoor
open Go.RowKit
set_option linter.unusedVariables false

theorem ykmet4 (k : Int) (o : Int) (i : Int) (q : Int) (p : Int) (c : Int) (t : Int) (u : ByteArray) (w : World) : (method 241 94 (.agg #[.int .i64 k, .int .i64 o, .int .i64 i, .int .i64 q, .int .i64 p, .int .i64 c, .int .i64 t, .string u]) "daybook/schema.last").run Tryd.prog w = .ok (92, .agg #[.int .i64 k, .int .i64 o, .int .i64 i, .int .i64 q, .int .i64 p, .int .i64 c, .int .i64 t, .string u]) w := by kernel_rfl
theorem yfmet4 (k : Int) (o : Int) (i : Int) (q : Int) (p : Int) (c : Int) (t : Int) (u : ByteArray) (w : World) : (method 241 94 (.agg #[.int .i64 k, .int .i64 o, .int .i64 i, .int .i64 q, .int .i64 p, .int .i64 c, .int .i64 t, .string u]) "daybook/schema.fits").run Tryd.prog w = .ok (91, .agg #[.int .i64 k, .int .i64 o, .int .i64 i, .int .i64 q, .int .i64 p, .int .i64 c, .int .i64 t, .string u]) w := by kernel_rfl
theorem yemet4 (k : Int) (o : Int) (i : Int) (q : Int) (p : Int) (c : Int) (t : Int) (u : ByteArray) (w : World) : (method 241 94 (.agg #[.int .i64 k, .int .i64 o, .int .i64 i, .int .i64 q, .int .i64 p, .int .i64 c, .int .i64 t, .string u]) "Event").run Tryd.prog w = .ok (90, .agg #[.int .i64 k, .int .i64 o, .int .i64 i, .int .i64 q, .int .i64 p, .int .i64 c, .int .i64 t, .string u]) w := by kernel_rfl
theorem yklast4 (k : Int) (o : Int) (i : Int) (q : Int) (p : Int) (c : Int) (t : Int) (u : ByteArray) (w : World) : Calls Tryd.prog 92 #[.agg #[.int .i64 k, .int .i64 o, .int .i64 i, .int .i64 q, .int .i64 p, .int .i64 c, .int .i64 t, .string u]] w fun x w' => x = .returned (.int .i64 9) ∧ Below w.heap.size w w' := by
  go_enter Tryd.func92, Tryd.ntmps92
  go_wp2_with fail
  go_ret
  exact ⟨rfl, below_made _ _⟩

set_option maxRecDepth 20000 in
set_option maxHeartbeats 3200000 in
theorem ychk4_low (k : Int) (o : Int) (i : Int) (q : Int) (p : Int) (c : Int) (t : Int) (u : ByteArray) (s : Int) (n : ByteArray) (w : World) (hk : k < 1) : Calls Tryd.prog 18 #[.int .i64 4, .agg #[.int .i64 k, .int .i64 o, .int .i64 i, .int .i64 q, .int .i64 p, .int .i64 c, .int .i64 t, .string u, .int .i64 s, .string n]] w fun x w' => x = .returned (.int .i64 31) ∧ Below w.heap.size w w' := by
  have hd : decide (k < 1) = true := by simpa using hk
  have ht := fun wx => typed_any 4 ⟨k, o, i, q, p, c, t, u, s, n⟩ wx
  unfold Ev.val Ev.cells typV at ht
  simp only [if_true, Int.reduceEq, if_false] at ht
  have HT := Lib.hid ht
  clear ht
  have hb0 := below_made w (.cells #[.int .i64 k, .int .i64 o, .int .i64 i, .int .i64 q, .int .i64 p, .int .i64 c, .int .i64 t, .string u, .int .i64 s, .string n] 25)
  have h0 := heap_alloc_new w (.cells #[.int .i64 k, .int .i64 o, .int .i64 i, .int .i64 q, .int .i64 p, .int .i64 c, .int .i64 t, .string u, .int .i64 s, .string n] 25)
  have hm := ykmet4 k o i q p c t u
  go_enter Tryd.func18, Tryd.ntmps18
  go_wp2_with fail
  (with_reducible refine (HT.out _).mono ?_)
  rintro x w1 ⟨rfl, hb1⟩
  have h1 := (hb1.block _ (by simp)).trans h0
  have hacc := below_next hb0 hb1
  obtain ⟨g0, g1, g2, g3, g4, g5, g6, g7, g8, g9⟩ := evAt h1
  clear h0 hb0 hb1 HT
  go_wp2_with fail
  go_quiet (fail)
  go_wp2_with fail
  go_ret
  exact ⟨rfl, hacc.trans ((Still.one _ _).below _)⟩

set_option maxRecDepth 20000 in
set_option maxHeartbeats 3200000 in
theorem ychk4_high (k : Int) (o : Int) (i : Int) (q : Int) (p : Int) (c : Int) (t : Int) (u : ByteArray) (s : Int) (n : ByteArray) (w : World) (hk : 9 < k) : Calls Tryd.prog 18 #[.int .i64 4, .agg #[.int .i64 k, .int .i64 o, .int .i64 i, .int .i64 q, .int .i64 p, .int .i64 c, .int .i64 t, .string u, .int .i64 s, .string n]] w fun x w' => x = .returned (.int .i64 31) ∧ Below w.heap.size w w' := by
  have hd : decide (k < 1) = false := by simp; omega
  have hd2 : decide (9 < k) = true := by simpa using hk
  have ht := fun wx => typed_any 4 ⟨k, o, i, q, p, c, t, u, s, n⟩ wx
  unfold Ev.val Ev.cells typV at ht
  simp only [if_true, Int.reduceEq, if_false] at ht
  have HT := Lib.hid ht
  clear ht
  have hb0 := below_made w (.cells #[.int .i64 k, .int .i64 o, .int .i64 i, .int .i64 q, .int .i64 p, .int .i64 c, .int .i64 t, .string u, .int .i64 s, .string n] 25)
  have h0 := heap_alloc_new w (.cells #[.int .i64 k, .int .i64 o, .int .i64 i, .int .i64 q, .int .i64 p, .int .i64 c, .int .i64 t, .string u, .int .i64 s, .string n] 25)
  have hm := ykmet4 k o i q p c t u
  go_enter Tryd.func18, Tryd.ntmps18
  go_wp2_with fail
  (with_reducible refine (HT.out _).mono ?_)
  rintro x w1 ⟨rfl, hb1⟩
  have h1 := (hb1.block _ (by simp)).trans h0
  have hacc := below_next hb0 hb1
  obtain ⟨g0, g1, g2, g3, g4, g5, g6, g7, g8, g9⟩ := evAt h1
  clear h0 hb0 hb1 HT
  go_wp2_with fail
  have hac : Below w.heap.size w w1.drew := hacc.trans ((Still.one w1 1).below _)
  have hEc : w1.drew.heap[w.heap.size]? = some (.cells #[.int .i64 k, .int .i64 o, .int .i64 i, .int .i64 q, .int .i64 p, .int .i64 c, .int .i64 t, .string u, .int .i64 s, .string n] 25) := h1
  go_region_held3 (fun w' => w'.cell? ⟨w.heap.size, 0, none⟩ = some (.int .i64 k))
    (first
      | go_keep
      | exact below_cell hbc (by assumption))
    (first
      | (go_at_call 92; refine (yklast4 k o i q p c t u _).mono ?_; rintro e wc ⟨rfl, hbc⟩; have hac := below_next hac hbc; have hEc := below_blk hbc hEc))
  go_wp2_with fail
  go_ret
  exact ⟨rfl, hac⟩

set_option maxRecDepth 20000 in
set_option maxHeartbeats 3200000 in
theorem ychk4_who (k : Int) (o : Int) (i : Int) (q : Int) (p : Int) (c : Int) (t : Int) (u : ByteArray) (s : Int) (n : ByteArray) (w : World) (hk1 : 1 ≤ k) (hk2 : k ≤ 9) (hu : 16 < u.size) : Calls Tryd.prog 18 #[.int .i64 4, .agg #[.int .i64 k, .int .i64 o, .int .i64 i, .int .i64 q, .int .i64 p, .int .i64 c, .int .i64 t, .string u, .int .i64 s, .string n]] w fun x w' => x = .returned (.int .i64 24) ∧ Below w.heap.size w w' := by
  have hd : decide (k < 1) = false := by simp; omega
  have hd2 : decide (9 < k) = false := by simp; omega
  have hu2 : 16 < (u.size : Int) := by omega
  have ht := fun wx => typed_any 4 ⟨k, o, i, q, p, c, t, u, s, n⟩ wx
  unfold Ev.val Ev.cells typV at ht
  simp only [if_true, Int.reduceEq, if_false] at ht
  have HT := Lib.hid ht
  clear ht
  have hb0 := below_made w (.cells #[.int .i64 k, .int .i64 o, .int .i64 i, .int .i64 q, .int .i64 p, .int .i64 c, .int .i64 t, .string u, .int .i64 s, .string n] 25)
  have h0 := heap_alloc_new w (.cells #[.int .i64 k, .int .i64 o, .int .i64 i, .int .i64 q, .int .i64 p, .int .i64 c, .int .i64 t, .string u, .int .i64 s, .string n] 25)
  have hm := ykmet4 k o i q p c t u
  go_enter Tryd.func18, Tryd.ntmps18
  go_wp2_with fail
  (with_reducible refine (HT.out _).mono ?_)
  rintro x w1 ⟨rfl, hb1⟩
  have h1 := (hb1.block _ (by simp)).trans h0
  have hacc := below_next hb0 hb1
  obtain ⟨g0, g1, g2, g3, g4, g5, g6, g7, g8, g9⟩ := evAt h1
  clear h0 hb0 hb1 HT
  go_wp2_with fail
  have hac : Below w.heap.size w w1.drew := hacc.trans ((Still.one w1 1).below _)
  have hEc : w1.drew.heap[w.heap.size]? = some (.cells #[.int .i64 k, .int .i64 o, .int .i64 i, .int .i64 q, .int .i64 p, .int .i64 c, .int .i64 t, .string u, .int .i64 s, .string n] 25) := h1
  go_region_held3 (fun w' => w'.cell? ⟨w.heap.size, 0, none⟩ = some (.int .i64 k))
    (first
      | go_keep
      | exact below_cell hbc (by assumption))
    (first
      | (go_at_call 92; refine (yklast4 k o i q p c t u _).mono ?_; rintro e wc ⟨rfl, hbc⟩; have hac := below_next hac hbc; have hEc := below_blk hbc hEc))
  clear g0 g1 g2 g3 g4 g5 g6 g7 g8 g9 h1 hacc
  obtain ⟨g0, g1, g2, g3, g4, g5, g6, g7, g8, g9⟩ := evAt hEc
  go_wp2_with fail
  go_ret
  exact ⟨rfl, hac⟩

set_option maxRecDepth 20000 in
set_option maxHeartbeats 3200000 in
theorem ychk4_note (k : Int) (o : Int) (i : Int) (q : Int) (p : Int) (c : Int) (t : Int) (u : ByteArray) (s : Int) (n : ByteArray) (w : World) (hk1 : 1 ≤ k) (hk2 : k ≤ 9) (hu : u.size ≤ 16) (hn : 120 < n.size) : Calls Tryd.prog 18 #[.int .i64 4, .agg #[.int .i64 k, .int .i64 o, .int .i64 i, .int .i64 q, .int .i64 p, .int .i64 c, .int .i64 t, .string u, .int .i64 s, .string n]] w fun x w' => x = .returned (.int .i64 24) ∧ Below w.heap.size w w' := by
  have hd : decide (k < 1) = false := by simp; omega
  have hd2 : decide (9 < k) = false := by simp; omega
  have hu2 : ¬ 16 < (u.size : Int) := by omega
  have hn2 : 120 < (n.size : Int) := by omega
  have ht := fun wx => typed_any 4 ⟨k, o, i, q, p, c, t, u, s, n⟩ wx
  unfold Ev.val Ev.cells typV at ht
  simp only [if_true, Int.reduceEq, if_false] at ht
  have HT := Lib.hid ht
  clear ht
  have hb0 := below_made w (.cells #[.int .i64 k, .int .i64 o, .int .i64 i, .int .i64 q, .int .i64 p, .int .i64 c, .int .i64 t, .string u, .int .i64 s, .string n] 25)
  have h0 := heap_alloc_new w (.cells #[.int .i64 k, .int .i64 o, .int .i64 i, .int .i64 q, .int .i64 p, .int .i64 c, .int .i64 t, .string u, .int .i64 s, .string n] 25)
  have hm := ykmet4 k o i q p c t u
  go_enter Tryd.func18, Tryd.ntmps18
  go_wp2_with fail
  (with_reducible refine (HT.out _).mono ?_)
  rintro x w1 ⟨rfl, hb1⟩
  have h1 := (hb1.block _ (by simp)).trans h0
  have hacc := below_next hb0 hb1
  obtain ⟨g0, g1, g2, g3, g4, g5, g6, g7, g8, g9⟩ := evAt h1
  clear h0 hb0 hb1 HT
  go_wp2_with fail
  have hac : Below w.heap.size w w1.drew := hacc.trans ((Still.one w1 1).below _)
  have hEc : w1.drew.heap[w.heap.size]? = some (.cells #[.int .i64 k, .int .i64 o, .int .i64 i, .int .i64 q, .int .i64 p, .int .i64 c, .int .i64 t, .string u, .int .i64 s, .string n] 25) := h1
  go_region_held3 (fun w' => w'.cell? ⟨w.heap.size, 0, none⟩ = some (.int .i64 k))
    (first
      | go_keep
      | exact below_cell hbc (by assumption))
    (first
      | (go_at_call 92; refine (yklast4 k o i q p c t u _).mono ?_; rintro e wc ⟨rfl, hbc⟩; have hac := below_next hac hbc; have hEc := below_blk hbc hEc))
  clear g0 g1 g2 g3 g4 g5 g6 g7 g8 g9 h1 hacc
  obtain ⟨g0, g1, g2, g3, g4, g5, g6, g7, g8, g9⟩ := evAt hEc
  go_wp2_with fail
  go_ret
  exact ⟨rfl, hac⟩

set_option maxRecDepth 20000 in
set_option maxHeartbeats 3200000 in
theorem ychk4_fit (k : Int) (o : Int) (i : Int) (q : Int) (p : Int) (c : Int) (t : Int) (u : ByteArray) (s : Int) (n : ByteArray) (w : World) (hk1 : 1 ≤ k) (hk2 : k ≤ 9) (hu : u.size ≤ 16) (hn : n.size ≤ 120) (hfit : Ev.fit4 ⟨k, o, i, q, p, c, t, u, s, n⟩ = false) : Calls Tryd.prog 18 #[.int .i64 4, .agg #[.int .i64 k, .int .i64 o, .int .i64 i, .int .i64 q, .int .i64 p, .int .i64 c, .int .i64 t, .string u, .int .i64 s, .string n]] w fun x w' => x = .returned (.int .i64 32) ∧ Below w.heap.size w w' := by
  have hd : decide (k < 1) = false := by simp; omega
  have hd2 : decide (9 < k) = false := by simp; omega
  have hu2 : ¬ 16 < (u.size : Int) := by omega
  have hn2 : ¬ 120 < (n.size : Int) := by omega
  have hf0 := fun wx => fit4_any ⟨k, o, i, q, p, c, t, u, s, n⟩ wx (by show u.size ≤ maxLen; unfold maxLen; omega)
  rw [hfit] at hf0
  have HF := Lib.hid hf0
  have hev := fun wx => ev4_any k o i q p c t u wx
  unfold Ev.val Ev.cells at hev
  have HEV := Lib.hid hev
  clear hev hf0
  have hmf := yfmet4 k o i q p c t u
  have hme := yemet4 k o i q p c t u
  have ht := fun wx => typed_any 4 ⟨k, o, i, q, p, c, t, u, s, n⟩ wx
  unfold Ev.val Ev.cells typV at ht
  simp only [if_true, Int.reduceEq, if_false] at ht
  have HT := Lib.hid ht
  clear ht
  have hb0 := below_made w (.cells #[.int .i64 k, .int .i64 o, .int .i64 i, .int .i64 q, .int .i64 p, .int .i64 c, .int .i64 t, .string u, .int .i64 s, .string n] 25)
  have h0 := heap_alloc_new w (.cells #[.int .i64 k, .int .i64 o, .int .i64 i, .int .i64 q, .int .i64 p, .int .i64 c, .int .i64 t, .string u, .int .i64 s, .string n] 25)
  have hm := ykmet4 k o i q p c t u
  go_enter Tryd.func18, Tryd.ntmps18
  go_wp2_with fail
  (with_reducible refine (HT.out _).mono ?_)
  rintro x w1 ⟨rfl, hb1⟩
  have h1 := (hb1.block _ (by simp)).trans h0
  have hacc := below_next hb0 hb1
  obtain ⟨g0, g1, g2, g3, g4, g5, g6, g7, g8, g9⟩ := evAt h1
  clear h0 hb0 hb1 HT
  go_wp2_with fail
  have hac : Below w.heap.size w w1.drew := hacc.trans ((Still.one w1 1).below _)
  have hEc : w1.drew.heap[w.heap.size]? = some (.cells #[.int .i64 k, .int .i64 o, .int .i64 i, .int .i64 q, .int .i64 p, .int .i64 c, .int .i64 t, .string u, .int .i64 s, .string n] 25) := h1
  go_region_held3 (fun w' => w'.cell? ⟨w.heap.size, 0, none⟩ = some (.int .i64 k))
    (first
      | go_keep
      | exact below_cell hbc (by assumption))
    (first
      | (go_at_call 92; refine (yklast4 k o i q p c t u _).mono ?_; rintro e wc ⟨rfl, hbc⟩; have hac := below_next hac hbc; have hEc := below_blk hbc hEc))
  clear g0 g1 g2 g3 g4 g5 g6 g7 g8 g9 h1 hacc
  obtain ⟨g0, g1, g2, g3, g4, g5, g6, g7, g8, g9⟩ := evAt hEc
  go_wp2_with fail
  have had : Below w.heap.size w wc.drew := hac.trans ((Still.one wc 1).below _)
  first | go_region_with (first
      | (go_at_call 91; refine (HF.out _).mono ?_; rintro e wd ⟨rfl, hbd⟩; have had := below_next had hbd)) | fail
  all_goals
    go_wp2_with fail
    go_ret
    exact ⟨rfl, had⟩

set_option maxRecDepth 20000 in
set_option maxHeartbeats 3200000 in
theorem ychk4_s (k : Int) (o : Int) (i : Int) (q : Int) (p : Int) (c : Int) (t : Int) (u : ByteArray) (s : Int) (n : ByteArray) (w : World) (hk1 : 1 ≤ k) (hk2 : k ≤ 9) (hu : u.size ≤ 16) (hn : n.size ≤ 120) (hfit : Ev.fit4 ⟨k, o, i, q, p, c, t, u, s, n⟩ = true) (hb : s ≠ 0) : Calls Tryd.prog 18 #[.int .i64 4, .agg #[.int .i64 k, .int .i64 o, .int .i64 i, .int .i64 q, .int .i64 p, .int .i64 c, .int .i64 t, .string u, .int .i64 s, .string n]] w fun x w' => x = .returned (.int .i64 32) ∧ Below w.heap.size w w' := by
  have hd : decide (k < 1) = false := by simp; omega
  have hd2 : decide (9 < k) = false := by simp; omega
  have hu2 : ¬ 16 < (u.size : Int) := by omega
  have hn2 : ¬ 120 < (n.size : Int) := by omega
  have hx1 : (0 == s) = false := by simpa using fun h => hb h.symm
  have hx2 : (s == 0) = false := by simpa using hb
  have hf0 := fun wx => fit4_any ⟨k, o, i, q, p, c, t, u, s, n⟩ wx (by show u.size ≤ maxLen; unfold maxLen; omega)
  rw [hfit] at hf0
  have HF := Lib.hid hf0
  have hev := fun wx => ev4_any k o i q p c t u wx
  unfold Ev.val Ev.cells at hev
  have HEV := Lib.hid hev
  clear hev hf0
  have hmf := yfmet4 k o i q p c t u
  have hme := yemet4 k o i q p c t u
  have ht := fun wx => typed_any 4 ⟨k, o, i, q, p, c, t, u, s, n⟩ wx
  unfold Ev.val Ev.cells typV at ht
  simp only [if_true, Int.reduceEq, if_false] at ht
  have HT := Lib.hid ht
  clear ht
  have hb0 := below_made w (.cells #[.int .i64 k, .int .i64 o, .int .i64 i, .int .i64 q, .int .i64 p, .int .i64 c, .int .i64 t, .string u, .int .i64 s, .string n] 25)
  have h0 := heap_alloc_new w (.cells #[.int .i64 k, .int .i64 o, .int .i64 i, .int .i64 q, .int .i64 p, .int .i64 c, .int .i64 t, .string u, .int .i64 s, .string n] 25)
  have hm := ykmet4 k o i q p c t u
  go_enter Tryd.func18, Tryd.ntmps18
  go_wp2_with fail
  (with_reducible refine (HT.out _).mono ?_)
  rintro x w1 ⟨rfl, hb1⟩
  have h1 := (hb1.block _ (by simp)).trans h0
  have hacc := below_next hb0 hb1
  obtain ⟨g0, g1, g2, g3, g4, g5, g6, g7, g8, g9⟩ := evAt h1
  clear h0 hb0 hb1 HT
  go_wp2_with fail
  have hac : Below w.heap.size w w1.drew := hacc.trans ((Still.one w1 1).below _)
  have hEc : w1.drew.heap[w.heap.size]? = some (.cells #[.int .i64 k, .int .i64 o, .int .i64 i, .int .i64 q, .int .i64 p, .int .i64 c, .int .i64 t, .string u, .int .i64 s, .string n] 25) := h1
  go_region_held3 (fun w' => w'.cell? ⟨w.heap.size, 0, none⟩ = some (.int .i64 k))
    (first
      | go_keep
      | exact below_cell hbc (by assumption))
    (first
      | (go_at_call 92; refine (yklast4 k o i q p c t u _).mono ?_; rintro e wc ⟨rfl, hbc⟩; have hac := below_next hac hbc; have hEc := below_blk hbc hEc))
  clear g0 g1 g2 g3 g4 g5 g6 g7 g8 g9 h1 hacc
  obtain ⟨g0, g1, g2, g3, g4, g5, g6, g7, g8, g9⟩ := evAt hEc
  go_wp2_with fail
  have had : Below w.heap.size w wc.drew := hac.trans ((Still.one wc 1).below _)
  go_region_held3 (fun w' => w'.cell? ⟨w.heap.size, 0, none⟩ = some (.int .i64 k) ∧ w'.cell? ⟨w.heap.size, 1, none⟩ = some (.int .i64 o) ∧ w'.cell? ⟨w.heap.size, 2, none⟩ = some (.int .i64 i) ∧ w'.cell? ⟨w.heap.size, 3, none⟩ = some (.int .i64 q) ∧ w'.cell? ⟨w.heap.size, 4, none⟩ = some (.int .i64 p) ∧ w'.cell? ⟨w.heap.size, 5, none⟩ = some (.int .i64 c) ∧ w'.cell? ⟨w.heap.size, 6, none⟩ = some (.int .i64 t) ∧ w'.cell? ⟨w.heap.size, 7, none⟩ = some (.string u) ∧ w'.cell? ⟨w.heap.size, 8, none⟩ = some (.int .i64 s) ∧ w'.cell? ⟨w.heap.size, 9, none⟩ = some (.string n))
    (first
      | go_keep
      | (go_split_ands
         exact ⟨below_cell hbd (by assumption), below_cell hbd (by assumption), below_cell hbd (by assumption), below_cell hbd (by assumption), below_cell hbd (by assumption), below_cell hbd (by assumption), below_cell hbd (by assumption), below_cell hbd (by assumption), below_cell hbd (by assumption), below_cell hbd (by assumption)⟩))
    (first
      | (go_at_call 91; refine (HF.out _).mono ?_; rintro e wd ⟨rfl, hbd⟩; have had := below_next had hbd)
      | (go_at_call 90; refine (HEV.out _).mono ?_; rintro e wd ⟨rfl, hbd⟩; have had := below_next had hbd))
  go_wp2_with fail
  go_ret
  exact ⟨rfl, had⟩

set_option maxRecDepth 20000 in
set_option maxHeartbeats 3200000 in
theorem ychk4_n (k : Int) (o : Int) (i : Int) (q : Int) (p : Int) (c : Int) (t : Int) (u : ByteArray) (n : ByteArray) (w : World) (hk1 : 1 ≤ k) (hk2 : k ≤ 9) (hu : u.size ≤ 16) (hn : n.size ≤ 120) (hfit : Ev.fit4 ⟨k, o, i, q, p, c, t, u, 0, n⟩ = true) (hb : n.size ≠ 0) : Calls Tryd.prog 18 #[.int .i64 4, .agg #[.int .i64 k, .int .i64 o, .int .i64 i, .int .i64 q, .int .i64 p, .int .i64 c, .int .i64 t, .string u, .int .i64 0, .string n]] w fun x w' => x = .returned (.int .i64 32) ∧ Below w.heap.size w w' := by
  have hd : decide (k < 1) = false := by simp; omega
  have hd2 : decide (9 < k) = false := by simp; omega
  have hu2 : ¬ 16 < (u.size : Int) := by omega
  have hn2 : ¬ 120 < (n.size : Int) := by omega
  have hx := bytes_ne hb
  obtain ⟨x1, x2, x3, x4⟩ := hx
  have hf0 := fun wx => fit4_any ⟨k, o, i, q, p, c, t, u, 0, n⟩ wx (by show u.size ≤ maxLen; unfold maxLen; omega)
  rw [hfit] at hf0
  have HF := Lib.hid hf0
  have hev := fun wx => ev4_any k o i q p c t u wx
  unfold Ev.val Ev.cells at hev
  have HEV := Lib.hid hev
  clear hev hf0
  have hmf := yfmet4 k o i q p c t u
  have hme := yemet4 k o i q p c t u
  have ht := fun wx => typed_any 4 ⟨k, o, i, q, p, c, t, u, 0, n⟩ wx
  unfold Ev.val Ev.cells typV at ht
  simp only [if_true, Int.reduceEq, if_false] at ht
  have HT := Lib.hid ht
  clear ht
  have hb0 := below_made w (.cells #[.int .i64 k, .int .i64 o, .int .i64 i, .int .i64 q, .int .i64 p, .int .i64 c, .int .i64 t, .string u, .int .i64 0, .string n] 25)
  have h0 := heap_alloc_new w (.cells #[.int .i64 k, .int .i64 o, .int .i64 i, .int .i64 q, .int .i64 p, .int .i64 c, .int .i64 t, .string u, .int .i64 0, .string n] 25)
  have hm := ykmet4 k o i q p c t u
  go_enter Tryd.func18, Tryd.ntmps18
  go_wp2_with fail
  (with_reducible refine (HT.out _).mono ?_)
  rintro x w1 ⟨rfl, hb1⟩
  have h1 := (hb1.block _ (by simp)).trans h0
  have hacc := below_next hb0 hb1
  obtain ⟨g0, g1, g2, g3, g4, g5, g6, g7, g8, g9⟩ := evAt h1
  clear h0 hb0 hb1 HT
  go_wp2_with fail
  have hac : Below w.heap.size w w1.drew := hacc.trans ((Still.one w1 1).below _)
  have hEc : w1.drew.heap[w.heap.size]? = some (.cells #[.int .i64 k, .int .i64 o, .int .i64 i, .int .i64 q, .int .i64 p, .int .i64 c, .int .i64 t, .string u, .int .i64 0, .string n] 25) := h1
  go_region_held3 (fun w' => w'.cell? ⟨w.heap.size, 0, none⟩ = some (.int .i64 k))
    (first
      | go_keep
      | exact below_cell hbc (by assumption))
    (first
      | (go_at_call 92; refine (yklast4 k o i q p c t u _).mono ?_; rintro e wc ⟨rfl, hbc⟩; have hac := below_next hac hbc; have hEc := below_blk hbc hEc))
  clear g0 g1 g2 g3 g4 g5 g6 g7 g8 g9 h1 hacc
  obtain ⟨g0, g1, g2, g3, g4, g5, g6, g7, g8, g9⟩ := evAt hEc
  go_wp2_with fail
  have had : Below w.heap.size w wc.drew := hac.trans ((Still.one wc 1).below _)
  go_region_held3 (fun w' => w'.cell? ⟨w.heap.size, 0, none⟩ = some (.int .i64 k) ∧ w'.cell? ⟨w.heap.size, 1, none⟩ = some (.int .i64 o) ∧ w'.cell? ⟨w.heap.size, 2, none⟩ = some (.int .i64 i) ∧ w'.cell? ⟨w.heap.size, 3, none⟩ = some (.int .i64 q) ∧ w'.cell? ⟨w.heap.size, 4, none⟩ = some (.int .i64 p) ∧ w'.cell? ⟨w.heap.size, 5, none⟩ = some (.int .i64 c) ∧ w'.cell? ⟨w.heap.size, 6, none⟩ = some (.int .i64 t) ∧ w'.cell? ⟨w.heap.size, 7, none⟩ = some (.string u) ∧ w'.cell? ⟨w.heap.size, 8, none⟩ = some (.int .i64 0) ∧ w'.cell? ⟨w.heap.size, 9, none⟩ = some (.string n))
    (first
      | go_keep
      | (go_split_ands
         exact ⟨below_cell hbd (by assumption), below_cell hbd (by assumption), below_cell hbd (by assumption), below_cell hbd (by assumption), below_cell hbd (by assumption), below_cell hbd (by assumption), below_cell hbd (by assumption), below_cell hbd (by assumption), below_cell hbd (by assumption), below_cell hbd (by assumption)⟩))
    (first
      | (go_at_call 91; refine (HF.out _).mono ?_; rintro e wd ⟨rfl, hbd⟩; have had := below_next had hbd)
      | (go_at_call 90; refine (HEV.out _).mono ?_; rintro e wd ⟨rfl, hbd⟩; have had := below_next had hbd))
  go_wp2_with fail
  go_ret
  exact ⟨rfl, had⟩

set_option maxRecDepth 20000 in
set_option maxHeartbeats 3200000 in
theorem ychk4_ok (k : Int) (o : Int) (i : Int) (q : Int) (p : Int) (c : Int) (t : Int) (u : ByteArray) (w : World) (hk1 : 1 ≤ k) (hk2 : k ≤ 9) (hu : u.size ≤ 16) (hfit : Ev.fit4 ⟨k, o, i, q, p, c, t, u, 0, ⟨#[]⟩⟩ = true) : Calls Tryd.prog 18 #[.int .i64 4, .agg #[.int .i64 k, .int .i64 o, .int .i64 i, .int .i64 q, .int .i64 p, .int .i64 c, .int .i64 t, .string u, .int .i64 0, .string ⟨#[]⟩]] w fun x w' => x = .returned (.int .i64 0) ∧ Below w.heap.size w w' := by
  have hd : decide (k < 1) = false := by simp; omega
  have hd2 : decide (9 < k) = false := by simp; omega
  have hu2 : ¬ 16 < (u.size : Int) := by omega
  have hf0 := fun wx => fit4_any ⟨k, o, i, q, p, c, t, u, 0, ⟨#[]⟩⟩ wx (by show u.size ≤ maxLen; unfold maxLen; omega)
  rw [hfit] at hf0
  have HF := Lib.hid hf0
  have hev := fun wx => ev4_any k o i q p c t u wx
  unfold Ev.val Ev.cells at hev
  have HEV := Lib.hid hev
  clear hev hf0
  have hmf := yfmet4 k o i q p c t u
  have hme := yemet4 k o i q p c t u
  have ht := fun wx => typed_any 4 ⟨k, o, i, q, p, c, t, u, 0, ⟨#[]⟩⟩ wx
  unfold Ev.val Ev.cells typV at ht
  simp only [if_true, Int.reduceEq, if_false] at ht
  have HT := Lib.hid ht
  clear ht
  have hb0 := below_made w (.cells #[.int .i64 k, .int .i64 o, .int .i64 i, .int .i64 q, .int .i64 p, .int .i64 c, .int .i64 t, .string u, .int .i64 0, .string ⟨#[]⟩] 25)
  have h0 := heap_alloc_new w (.cells #[.int .i64 k, .int .i64 o, .int .i64 i, .int .i64 q, .int .i64 p, .int .i64 c, .int .i64 t, .string u, .int .i64 0, .string ⟨#[]⟩] 25)
  have hm := ykmet4 k o i q p c t u
  go_enter Tryd.func18, Tryd.ntmps18
  go_wp2_with fail
  (with_reducible refine (HT.out _).mono ?_)
  rintro x w1 ⟨rfl, hb1⟩
  have h1 := (hb1.block _ (by simp)).trans h0
  have hacc := below_next hb0 hb1
  obtain ⟨g0, g1, g2, g3, g4, g5, g6, g7, g8, g9⟩ := evAt h1
  clear h0 hb0 hb1 HT
  go_wp2_with fail
  have hac : Below w.heap.size w w1.drew := hacc.trans ((Still.one w1 1).below _)
  have hEc : w1.drew.heap[w.heap.size]? = some (.cells #[.int .i64 k, .int .i64 o, .int .i64 i, .int .i64 q, .int .i64 p, .int .i64 c, .int .i64 t, .string u, .int .i64 0, .string ⟨#[]⟩] 25) := h1
  go_region_held3 (fun w' => w'.cell? ⟨w.heap.size, 0, none⟩ = some (.int .i64 k))
    (first
      | go_keep
      | exact below_cell hbc (by assumption))
    (first
      | (go_at_call 92; refine (yklast4 k o i q p c t u _).mono ?_; rintro e wc ⟨rfl, hbc⟩; have hac := below_next hac hbc; have hEc := below_blk hbc hEc))
  clear g0 g1 g2 g3 g4 g5 g6 g7 g8 g9 h1 hacc
  obtain ⟨g0, g1, g2, g3, g4, g5, g6, g7, g8, g9⟩ := evAt hEc
  go_wp2_with fail
  have had : Below w.heap.size w wc.drew := hac.trans ((Still.one wc 1).below _)
  go_region_held3 (fun w' => w'.cell? ⟨w.heap.size, 0, none⟩ = some (.int .i64 k) ∧ w'.cell? ⟨w.heap.size, 1, none⟩ = some (.int .i64 o) ∧ w'.cell? ⟨w.heap.size, 2, none⟩ = some (.int .i64 i) ∧ w'.cell? ⟨w.heap.size, 3, none⟩ = some (.int .i64 q) ∧ w'.cell? ⟨w.heap.size, 4, none⟩ = some (.int .i64 p) ∧ w'.cell? ⟨w.heap.size, 5, none⟩ = some (.int .i64 c) ∧ w'.cell? ⟨w.heap.size, 6, none⟩ = some (.int .i64 t) ∧ w'.cell? ⟨w.heap.size, 7, none⟩ = some (.string u) ∧ w'.cell? ⟨w.heap.size, 8, none⟩ = some (.int .i64 0) ∧ w'.cell? ⟨w.heap.size, 9, none⟩ = some (.string ⟨#[]⟩))
    (first
      | go_keep
      | (go_split_ands
         exact ⟨below_cell hbd (by assumption), below_cell hbd (by assumption), below_cell hbd (by assumption), below_cell hbd (by assumption), below_cell hbd (by assumption), below_cell hbd (by assumption), below_cell hbd (by assumption), below_cell hbd (by assumption), below_cell hbd (by assumption), below_cell hbd (by assumption)⟩))
    (first
      | (go_at_call 91; refine (HF.out _).mono ?_; rintro e wd ⟨rfl, hbd⟩; have had := below_next had hbd)
      | (go_at_call 90; refine (HEV.out _).mono ?_; rintro e wd ⟨rfl, hbd⟩; have had := below_next had hbd))
  go_wp2_with fail
  go_ret
  exact ⟨rfl, had⟩

theorem ychk4_any (e : Ev) (w : World) : Calls Tryd.prog 18 #[.int .i64 4, e.val] w (GivesC 4 e w) := by
  obtain ⟨k, o, i, q, p, c, t, u, s, n⟩ := e
  unfold GivesC Ev.val Ev.cells
  by_cases c1 : k < 1
  · rw [chk_low (v := 4) (e := ⟨k, o, i, q, p, c, t, u, s, n⟩) (by decide) (by decide) c1]; exact ychk4_low k o i q p c t u s n w c1
  by_cases c2 : 9 < k
  · rw [chk_high (v := 4) (e := ⟨k, o, i, q, p, c, t, u, s, n⟩) (by decide) (by decide) c2]; exact ychk4_high k o i q p c t u s n w c2
  by_cases c3 : 16 < u.size
  · rw [chk_who (v := 4) (e := ⟨k, o, i, q, p, c, t, u, s, n⟩) (by decide) (by decide) (by omega) (by show k ≤ 9; omega) (.inl c3)]; exact ychk4_who k o i q p c t u s n w (by omega) (by omega) c3
  by_cases c4 : 120 < n.size
  · rw [chk_who (v := 4) (e := ⟨k, o, i, q, p, c, t, u, s, n⟩) (by decide) (by decide) (by omega) (by show k ≤ 9; omega) (.inr c4)]; exact ychk4_note k o i q p c t u s n w (by omega) (by omega) (by omega) c4
  have hc := chk_in (v := 4) (e := ⟨k, o, i, q, p, c, t, u, s, n⟩) (by decide) (by decide) (by omega : ¬ k < 1) (by show k ≤ 9; omega) (by show u.size ≤ 16; omega) (by show n.size ≤ 120; omega)
  cases hfit : Ev.fit4 ⟨k, o, i, q, p, c, t, u, s, n⟩
  · rw [hc.trans (chk_bad (.inl (show Ev.fitB 4 ⟨k, o, i, q, p, c, t, u, s, n⟩ = false from hfit)))]; exact ychk4_fit k o i q p c t u s n w (by omega) (by omega) (by omega) (by omega) hfit
  by_cases bs : ¬ s = 0
  · rw [hc, chk_bad (.inr (by simp [Ev.bareB, bs]))]; exact ychk4_s k o i q p c t u s n w (by omega) (by omega) (by omega) (by omega) hfit bs
  obtain rfl : s = 0 := by omega
  by_cases bn : ¬ n.size = 0
  · rw [hc, chk_bad (.inr (by simp [Ev.bareB, bn]))]; exact ychk4_n k o i q p c t u n w (by omega) (by omega) (by omega) (by omega) hfit bn
  obtain rfl := bytes_nil (by omega : n.size = 0)
  rw [hc.trans (chk_good (show Ev.fitB 4 ⟨k, o, i, q, p, c, t, u, 0, ⟨#[]⟩⟩ = true from hfit) (by simp [Ev.bareB] <;> rfl))]; exact ychk4_ok k o i q p c t u w (by omega) (by omega) (by omega) hfit
end Go.Proofs.YtkdpingniohfhaaDoor
