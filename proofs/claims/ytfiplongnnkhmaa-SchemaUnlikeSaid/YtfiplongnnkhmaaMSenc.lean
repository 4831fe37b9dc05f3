/-
  The walks of schema's Encode and Pack, printed by gensenc.py. No condition.
-/
import Derived.Test.YtfiplongnnkhmaaMSchrec
import Derived.Test.YtfiplongnnkhmaaMUchk
import Derived.Test.YtfiplongnnkhmaaMSty
namespace Go.Proofs.Ytfiplongnnkhmaa
open Go.RowKit
set_option linter.unusedVariables false

/-- What Encode gives. -/
def GivesE (v : Int) (e : Ev) (w : World) (x : Ending) (w' : World) : Prop := ∃ a c l, x = .returned (.tuple #[.slice a l c, .int .i64 (chk v e)]) ∧ l = (encL v e).length ∧ w'.ownsRow w.heap.size 5 1 (.slice a l c) l ((encL v e).map B) ∧ Below w.heap.size w w'

theorem senc_bad (v : Int) (e : Ev) (r : Int) (w : World) (hr : chk v e = r) (hr0 : r ≠ 0) : Calls Try.prog 15 #[.int .i64 v, e.val] w (GivesE v e w) := by
  have hk := fun wx => chk_any v e wx
  unfold GivesC at hk
  rw [hr] at hk
  have hL : encL v e = [] := by unfold encL; rw [if_neg (by rw [hr]; exact hr0)]
  have HG : Hid (encL v e = [] ∧ chk v e = r) := Lib.hid ⟨hL, hr⟩
  have hrb : (r != 0) = true := by simpa using hr0
  unfold Ev.val Ev.cells at hk ⊢
  have HK := Lib.hid hk
  clear hk hL hr hr0
  unfold GivesE
  rw [HG.out.1, HG.out.2]
  go_enter Try.func15, Try.ntmps15
  go_wp2_with fail
  (with_reducible refine (HK.out _).mono ?_)
  rintro x w1 ⟨rfl, hb1⟩
  go_wp2_with fail
  refine bodyPost_ret (results_tmp2 rfl _ _ _) rfl ?_
  exact ⟨none, 0, 0, rfl, rfl, World.ownsRow_nil _ _ _ _, below_next (below_made _ _) hb1⟩

theorem wmet1 (e : Ev) (w : World) : (method 242 84 (.agg #[.int .i64 e.kind, .int .i64 e.order, .int .i64 e.item, .int .i64 e.qty, .int .i64 e.price]) "daybook/schema.write").run Try.prog w = .ok (80, .agg #[.int .i64 e.kind, .int .i64 e.order, .int .i64 e.item, .int .i64 e.qty, .int .i64 e.price]) w := by kernel_rfl
set_option maxRecDepth 20000 in
set_option maxHeartbeats 1600000 in
theorem senc_ok1 (e : Ev) (w : World) (h : chk 1 e = 0) : Calls Try.prog 15 #[.int .i64 1, e.val] w (GivesE 1 e w) := by
  have hR := right_of h
  have hbd := bd_of hR
  have hk := fun wx => chk_any 1 e wx
  unfold GivesC at hk
  rw [h] at hk
  have ht := fun wx => typed_any 1 e wx
  unfold typV at ht
  simp only [if_true, Int.reduceEq, if_false] at ht
  have HG : Hid (encL 1 e = recF (fieldsE 1 e) ∧ chk 1 e = 0) := Lib.hid ⟨by unfold encL; rw [if_pos h], h⟩
  have hsh : (recF (f1F e.kind e.order e.item e.qty e.price)).length ≤ 1024 := rec_short 1 e hbd
  have HS := Lib.hid hsh
  have hq1 : e.qty ≤ 9223372036854775807 := by have := hbd.q1; omega
  have HQ1 := Lib.hid hq1
  have HBD := Lib.hid hbd
  have HQ : Hid (3 ≤ (1 : Int) → 0 ≤ e.qty) := Lib.hid hR.q3
  unfold Ev.val Ev.cells at hk ht ⊢
  have HK := Lib.hid hk
  have HT := Lib.hid ht
  clear hk ht h hR hbd hsh hq1
  unfold GivesE
  rw [HG.out.1, HG.out.2]
  have hm := wmet1 e
  have hbe := below_made w (.cells #[.int .i64 e.kind, .int .i64 e.order, .int .i64 e.item, .int .i64 e.qty, .int .i64 e.price, .int .i64 e.cur, .int .i64 e.tax, .string e.who, .int .i64 e.stamp, .string e.note] 24)
  have hEe := heap_alloc_new w (.cells #[.int .i64 e.kind, .int .i64 e.order, .int .i64 e.item, .int .i64 e.qty, .int .i64 e.price, .int .i64 e.cur, .int .i64 e.tax, .string e.who, .int .i64 e.stamp, .string e.note] 24)
  go_enter Try.func15, Try.ntmps15
  go_wp2_with fail
  (with_reducible refine (HK.out _).mono ?_)
  rintro x w1 ⟨rfl, hb1⟩
  have hE1 := below_blk' hb1 hEe
  have hab1 := below_next hbe hb1
  clear hbe hEe hb1
  go_wp2_with fail
  (with_reducible refine (new_any _).mono ?_)
  rintro x w2 ⟨rfl, hok2, hb2⟩
  have hE2 := below_blk' hb2 hE1
  have hab2 := below_next hab1 hb2
  obtain ⟨g0, g1, g2, g3, g4, g5, g6, g7, g8, g9⟩ := evAt hE2
  go_wp2_with fail
  (with_reducible refine (HT.out _).mono ?_)
  rintro x w3 ⟨rfl, hb3⟩
  have hok3 := hok2.below hb3
  have hs12 := hb2.size
  have HO := Lib.hid hok3
  clear g0 g1 g2 g3 g4 g5 g6 g7 g8 g9 hok2 hE1 hE2
  go_wp2_with fail
  (with_reducible refine (write1 e.kind e.order e.item e.qty e.price w1 _ _ HO.out HBD.out.k0 HBD.out.k1 HBD.out.o0 HBD.out.o1 HBD.out.i0 HBD.out.i1 HBD.out.q0 HQ1.out HBD.out.p0 HBD.out.p1).mono ?_)
  rintro x w4 hgv
  obtain ⟨⟨vv, rfl⟩, hok4, hk4⟩ := gv hgv
  have hbel4 : Below w1.heap.size w1 w4 := by obtain ⟨_, _, _, _, hx⟩ := hok4.at'; exact hx.bel
  have hab4 := below_next hab1 hbel4
  clear hgv hok3 HO
  go_wp2_with fail
  (with_reducible refine (done_any w1 _ _ _ _ hok4 HS.out).mono ?_)
  rintro x w5 ⟨a5, c5, l5, rfl, rfl, ho5, hb5⟩
  have hs4 := hab4.size
  go_wp2_with fail
  refine bodyPost_ret (results_tmp2 rfl _ _ _) rfl ?_
  exact ⟨a5, c5, _, rfl, rfl, own_mono ho5 hs4, below_next hab4 hb5⟩

theorem wmet2 (e : Ev) (w : World) : (method 242 86 (.agg #[.int .i64 e.kind, .int .i64 e.order, .int .i64 e.item, .int .i64 e.qty, .int .i64 e.price, .int .i64 e.cur]) "daybook/schema.write").run Try.prog w = .ok (89, .agg #[.int .i64 e.kind, .int .i64 e.order, .int .i64 e.item, .int .i64 e.qty, .int .i64 e.price, .int .i64 e.cur]) w := by kernel_rfl
set_option maxRecDepth 20000 in
set_option maxHeartbeats 1600000 in
theorem senc_ok2 (e : Ev) (w : World) (h : chk 2 e = 0) : Calls Try.prog 15 #[.int .i64 2, e.val] w (GivesE 2 e w) := by
  have hR := right_of h
  have hbd := bd_of hR
  have hk := fun wx => chk_any 2 e wx
  unfold GivesC at hk
  rw [h] at hk
  have ht := fun wx => typed_any 2 e wx
  unfold typV at ht
  simp only [if_true, Int.reduceEq, if_false] at ht
  have HG : Hid (encL 2 e = recF (fieldsE 2 e) ∧ chk 2 e = 0) := Lib.hid ⟨by unfold encL; rw [if_pos h], h⟩
  have hsh : (recF (f2F e.kind e.order e.item e.qty e.price e.cur)).length ≤ 1024 := rec_short 2 e hbd
  have HS := Lib.hid hsh
  have hq1 : e.qty ≤ 9223372036854775807 := by have := hbd.q1; omega
  have HQ1 := Lib.hid hq1
  have HBD := Lib.hid hbd
  have HQ : Hid (3 ≤ (2 : Int) → 0 ≤ e.qty) := Lib.hid hR.q3
  unfold Ev.val Ev.cells at hk ht ⊢
  have HK := Lib.hid hk
  have HT := Lib.hid ht
  clear hk ht h hR hbd hsh hq1
  unfold GivesE
  rw [HG.out.1, HG.out.2]
  have hm := wmet2 e
  have hbe := below_made w (.cells #[.int .i64 e.kind, .int .i64 e.order, .int .i64 e.item, .int .i64 e.qty, .int .i64 e.price, .int .i64 e.cur, .int .i64 e.tax, .string e.who, .int .i64 e.stamp, .string e.note] 24)
  have hEe := heap_alloc_new w (.cells #[.int .i64 e.kind, .int .i64 e.order, .int .i64 e.item, .int .i64 e.qty, .int .i64 e.price, .int .i64 e.cur, .int .i64 e.tax, .string e.who, .int .i64 e.stamp, .string e.note] 24)
  go_enter Try.func15, Try.ntmps15
  go_wp2_with fail
  (with_reducible refine (HK.out _).mono ?_)
  rintro x w1 ⟨rfl, hb1⟩
  have hE1 := below_blk' hb1 hEe
  have hab1 := below_next hbe hb1
  clear hbe hEe hb1
  go_wp2_with fail
  (with_reducible refine (new_any _).mono ?_)
  rintro x w2 ⟨rfl, hok2, hb2⟩
  have hE2 := below_blk' hb2 hE1
  have hab2 := below_next hab1 hb2
  obtain ⟨g0, g1, g2, g3, g4, g5, g6, g7, g8, g9⟩ := evAt hE2
  go_wp2_with fail
  (with_reducible refine (HT.out _).mono ?_)
  rintro x w3 ⟨rfl, hb3⟩
  have hok3 := hok2.below hb3
  have hs12 := hb2.size
  have HO := Lib.hid hok3
  clear g0 g1 g2 g3 g4 g5 g6 g7 g8 g9 hok2 hE1 hE2
  go_wp2_with fail
  (with_reducible refine (write2 e.kind e.order e.item e.qty e.price e.cur w1 _ _ HO.out HBD.out.k0 HBD.out.k1 HBD.out.o0 HBD.out.o1 HBD.out.i0 HBD.out.i1 HBD.out.q0 HQ1.out HBD.out.p0 HBD.out.p1 HBD.out.c0 HBD.out.c1).mono ?_)
  rintro x w4 hgv
  obtain ⟨⟨vv, rfl⟩, hok4, hk4⟩ := gv hgv
  have hbel4 : Below w1.heap.size w1 w4 := by obtain ⟨_, _, _, _, hx⟩ := hok4.at'; exact hx.bel
  have hab4 := below_next hab1 hbel4
  clear hgv hok3 HO
  go_wp2_with fail
  (with_reducible refine (done_any w1 _ _ _ _ hok4 HS.out).mono ?_)
  rintro x w5 ⟨a5, c5, l5, rfl, rfl, ho5, hb5⟩
  have hs4 := hab4.size
  go_wp2_with fail
  refine bodyPost_ret (results_tmp2 rfl _ _ _) rfl ?_
  exact ⟨a5, c5, _, rfl, rfl, own_mono ho5 hs4, below_next hab4 hb5⟩

theorem wmet3 (e : Ev) (w : World) : (method 242 88 (.agg #[.int .i64 e.kind, .int .i64 e.order, .int .i64 e.item, .int .i64 e.qty, .int .i64 e.price, .int .i64 e.cur, .int .i64 e.tax]) "daybook/schema.write").run Try.prog w = .ok (93, .agg #[.int .i64 e.kind, .int .i64 e.order, .int .i64 e.item, .int .i64 e.qty, .int .i64 e.price, .int .i64 e.cur, .int .i64 e.tax]) w := by kernel_rfl
set_option maxRecDepth 20000 in
set_option maxHeartbeats 1600000 in
theorem senc_ok3 (e : Ev) (w : World) (h : chk 3 e = 0) : Calls Try.prog 15 #[.int .i64 3, e.val] w (GivesE 3 e w) := by
  have hR := right_of h
  have hbd := bd_of hR
  have hk := fun wx => chk_any 3 e wx
  unfold GivesC at hk
  rw [h] at hk
  have ht := fun wx => typed_any 3 e wx
  unfold typV at ht
  simp only [if_true, Int.reduceEq, if_false] at ht
  have HG : Hid (encL 3 e = recF (fieldsE 3 e) ∧ chk 3 e = 0) := Lib.hid ⟨by unfold encL; rw [if_pos h], h⟩
  have hsh : (recF (f3F e.kind e.order e.item e.qty e.price e.cur e.tax)).length ≤ 1024 := rec_short 3 e hbd
  have HS := Lib.hid hsh
  have hq1 : e.qty ≤ 9223372036854775807 := by have := hbd.q1; omega
  have HQ1 := Lib.hid hq1
  have HBD := Lib.hid hbd
  have HQ : Hid (3 ≤ (3 : Int) → 0 ≤ e.qty) := Lib.hid hR.q3
  unfold Ev.val Ev.cells at hk ht ⊢
  have HK := Lib.hid hk
  have HT := Lib.hid ht
  clear hk ht h hR hbd hsh hq1
  unfold GivesE
  rw [HG.out.1, HG.out.2]
  have hm := wmet3 e
  have hbe := below_made w (.cells #[.int .i64 e.kind, .int .i64 e.order, .int .i64 e.item, .int .i64 e.qty, .int .i64 e.price, .int .i64 e.cur, .int .i64 e.tax, .string e.who, .int .i64 e.stamp, .string e.note] 24)
  have hEe := heap_alloc_new w (.cells #[.int .i64 e.kind, .int .i64 e.order, .int .i64 e.item, .int .i64 e.qty, .int .i64 e.price, .int .i64 e.cur, .int .i64 e.tax, .string e.who, .int .i64 e.stamp, .string e.note] 24)
  go_enter Try.func15, Try.ntmps15
  go_wp2_with fail
  (with_reducible refine (HK.out _).mono ?_)
  rintro x w1 ⟨rfl, hb1⟩
  have hE1 := below_blk' hb1 hEe
  have hab1 := below_next hbe hb1
  clear hbe hEe hb1
  go_wp2_with fail
  (with_reducible refine (new_any _).mono ?_)
  rintro x w2 ⟨rfl, hok2, hb2⟩
  have hE2 := below_blk' hb2 hE1
  have hab2 := below_next hab1 hb2
  obtain ⟨g0, g1, g2, g3, g4, g5, g6, g7, g8, g9⟩ := evAt hE2
  go_wp2_with fail
  (with_reducible refine (HT.out _).mono ?_)
  rintro x w3 ⟨rfl, hb3⟩
  have hok3 := hok2.below hb3
  have hs12 := hb2.size
  have HO := Lib.hid hok3
  clear g0 g1 g2 g3 g4 g5 g6 g7 g8 g9 hok2 hE1 hE2
  go_wp2_with fail
  (with_reducible refine (write3 e.kind e.order e.item e.qty e.price e.cur e.tax w1 _ _ HO.out HBD.out.k0 HBD.out.k1 HBD.out.o0 HBD.out.o1 HBD.out.i0 HBD.out.i1 (HQ.out (by decide)) HBD.out.q1 HBD.out.p0 HBD.out.p1 HBD.out.c0 HBD.out.c1 HBD.out.t0 HBD.out.t1).mono ?_)
  rintro x w4 hgv
  obtain ⟨⟨vv, rfl⟩, hok4, hk4⟩ := gv hgv
  have hbel4 : Below w1.heap.size w1 w4 := by obtain ⟨_, _, _, _, hx⟩ := hok4.at'; exact hx.bel
  have hab4 := below_next hab1 hbel4
  clear hgv hok3 HO
  go_wp2_with fail
  (with_reducible refine (done_any w1 _ _ _ _ hok4 HS.out).mono ?_)
  rintro x w5 ⟨a5, c5, l5, rfl, rfl, ho5, hb5⟩
  have hs4 := hab4.size
  go_wp2_with fail
  refine bodyPost_ret (results_tmp2 rfl _ _ _) rfl ?_
  exact ⟨a5, c5, _, rfl, rfl, own_mono ho5 hs4, below_next hab4 hb5⟩

theorem wmet4 (e : Ev) (w : World) : (method 242 90 (.agg #[.int .i64 e.kind, .int .i64 e.order, .int .i64 e.item, .int .i64 e.qty, .int .i64 e.price, .int .i64 e.cur, .int .i64 e.tax, .string e.who]) "daybook/schema.write").run Try.prog w = .ok (97, .agg #[.int .i64 e.kind, .int .i64 e.order, .int .i64 e.item, .int .i64 e.qty, .int .i64 e.price, .int .i64 e.cur, .int .i64 e.tax, .string e.who]) w := by kernel_rfl
set_option maxRecDepth 20000 in
set_option maxHeartbeats 1600000 in
theorem senc_ok4 (e : Ev) (w : World) (h : chk 4 e = 0) : Calls Try.prog 15 #[.int .i64 4, e.val] w (GivesE 4 e w) := by
  have hR := right_of h
  have hbd := bd_of hR
  have hk := fun wx => chk_any 4 e wx
  unfold GivesC at hk
  rw [h] at hk
  have ht := fun wx => typed_any 4 e wx
  unfold typV at ht
  simp only [if_true, Int.reduceEq, if_false] at ht
  have HG : Hid (encL 4 e = recF (fieldsE 4 e) ∧ chk 4 e = 0) := Lib.hid ⟨by unfold encL; rw [if_pos h], h⟩
  have hsh : (recF (f4F e.kind e.order e.item e.qty e.price e.cur e.tax e.who)).length ≤ 1024 := rec_short 4 e hbd
  have HS := Lib.hid hsh
  have hq1 : e.qty ≤ 9223372036854775807 := by have := hbd.q1; omega
  have HQ1 := Lib.hid hq1
  have HBD := Lib.hid hbd
  have HQ : Hid (3 ≤ (4 : Int) → 0 ≤ e.qty) := Lib.hid hR.q3
  unfold Ev.val Ev.cells at hk ht ⊢
  have HK := Lib.hid hk
  have HT := Lib.hid ht
  clear hk ht h hR hbd hsh hq1
  unfold GivesE
  rw [HG.out.1, HG.out.2]
  have hm := wmet4 e
  have hbe := below_made w (.cells #[.int .i64 e.kind, .int .i64 e.order, .int .i64 e.item, .int .i64 e.qty, .int .i64 e.price, .int .i64 e.cur, .int .i64 e.tax, .string e.who, .int .i64 e.stamp, .string e.note] 24)
  have hEe := heap_alloc_new w (.cells #[.int .i64 e.kind, .int .i64 e.order, .int .i64 e.item, .int .i64 e.qty, .int .i64 e.price, .int .i64 e.cur, .int .i64 e.tax, .string e.who, .int .i64 e.stamp, .string e.note] 24)
  go_enter Try.func15, Try.ntmps15
  go_wp2_with fail
  (with_reducible refine (HK.out _).mono ?_)
  rintro x w1 ⟨rfl, hb1⟩
  have hE1 := below_blk' hb1 hEe
  have hab1 := below_next hbe hb1
  clear hbe hEe hb1
  go_wp2_with fail
  (with_reducible refine (new_any _).mono ?_)
  rintro x w2 ⟨rfl, hok2, hb2⟩
  have hE2 := below_blk' hb2 hE1
  have hab2 := below_next hab1 hb2
  obtain ⟨g0, g1, g2, g3, g4, g5, g6, g7, g8, g9⟩ := evAt hE2
  go_wp2_with fail
  (with_reducible refine (HT.out _).mono ?_)
  rintro x w3 ⟨rfl, hb3⟩
  have hok3 := hok2.below hb3
  have hs12 := hb2.size
  have HO := Lib.hid hok3
  clear g0 g1 g2 g3 g4 g5 g6 g7 g8 g9 hok2 hE1 hE2
  go_wp2_with fail
  (with_reducible refine (write4 e.kind e.order e.item e.qty e.price e.cur e.tax e.who w1 _ _ HO.out HBD.out.k0 HBD.out.k1 HBD.out.o0 HBD.out.o1 HBD.out.i0 HBD.out.i1 (HQ.out (by decide)) HBD.out.q1 HBD.out.p0 HBD.out.p1 HBD.out.c0 HBD.out.c1 HBD.out.t0 HBD.out.t1 HBD.out.u).mono ?_)
  rintro x w4 hgv
  obtain ⟨⟨vv, rfl⟩, hok4, hk4⟩ := gv hgv
  have hbel4 : Below w1.heap.size w1 w4 := by obtain ⟨_, _, _, _, hx⟩ := hok4.at'; exact hx.bel
  have hab4 := below_next hab1 hbel4
  clear hgv hok3 HO
  go_wp2_with fail
  (with_reducible refine (done_any w1 _ _ _ _ hok4 HS.out).mono ?_)
  rintro x w5 ⟨a5, c5, l5, rfl, rfl, ho5, hb5⟩
  have hs4 := hab4.size
  go_wp2_with fail
  refine bodyPost_ret (results_tmp2 rfl _ _ _) rfl ?_
  exact ⟨a5, c5, _, rfl, rfl, own_mono ho5 hs4, below_next hab4 hb5⟩

theorem wmet5 (e : Ev) (w : World) : (method 242 92 (.agg #[.int .i64 e.kind, .int .i64 e.order, .int .i64 e.item, .int .i64 e.qty, .int .i64 e.price, .int .i64 e.cur, .int .i64 e.tax, .string e.who, .int .i64 e.stamp, .string e.note]) "daybook/schema.write").run Try.prog w = .ok (103, .agg #[.int .i64 e.kind, .int .i64 e.order, .int .i64 e.item, .int .i64 e.qty, .int .i64 e.price, .int .i64 e.cur, .int .i64 e.tax, .string e.who, .int .i64 e.stamp, .string e.note]) w := by kernel_rfl
set_option maxRecDepth 20000 in
set_option maxHeartbeats 1600000 in
theorem senc_ok5 (e : Ev) (w : World) (h : chk 5 e = 0) : Calls Try.prog 15 #[.int .i64 5, e.val] w (GivesE 5 e w) := by
  have hR := right_of h
  have hbd := bd_of hR
  have hk := fun wx => chk_any 5 e wx
  unfold GivesC at hk
  rw [h] at hk
  have ht := fun wx => typed_any 5 e wx
  unfold typV at ht
  simp only [if_true, Int.reduceEq, if_false] at ht
  have HG : Hid (encL 5 e = recF (fieldsE 5 e) ∧ chk 5 e = 0) := Lib.hid ⟨by unfold encL; rw [if_pos h], h⟩
  have hsh : (recF (f5F e.kind e.order e.item e.qty e.price e.cur e.tax e.who e.stamp e.note)).length ≤ 1024 := rec_short 5 e hbd
  have HS := Lib.hid hsh
  have hq1 : e.qty ≤ 9223372036854775807 := by have := hbd.q1; omega
  have HQ1 := Lib.hid hq1
  have HBD := Lib.hid hbd
  have HQ : Hid (3 ≤ (5 : Int) → 0 ≤ e.qty) := Lib.hid hR.q3
  unfold Ev.val Ev.cells at hk ht ⊢
  have HK := Lib.hid hk
  have HT := Lib.hid ht
  clear hk ht h hR hbd hsh hq1
  unfold GivesE
  rw [HG.out.1, HG.out.2]
  have hm := wmet5 e
  have hbe := below_made w (.cells #[.int .i64 e.kind, .int .i64 e.order, .int .i64 e.item, .int .i64 e.qty, .int .i64 e.price, .int .i64 e.cur, .int .i64 e.tax, .string e.who, .int .i64 e.stamp, .string e.note] 24)
  have hEe := heap_alloc_new w (.cells #[.int .i64 e.kind, .int .i64 e.order, .int .i64 e.item, .int .i64 e.qty, .int .i64 e.price, .int .i64 e.cur, .int .i64 e.tax, .string e.who, .int .i64 e.stamp, .string e.note] 24)
  go_enter Try.func15, Try.ntmps15
  go_wp2_with fail
  (with_reducible refine (HK.out _).mono ?_)
  rintro x w1 ⟨rfl, hb1⟩
  have hE1 := below_blk' hb1 hEe
  have hab1 := below_next hbe hb1
  clear hbe hEe hb1
  go_wp2_with fail
  (with_reducible refine (new_any _).mono ?_)
  rintro x w2 ⟨rfl, hok2, hb2⟩
  have hE2 := below_blk' hb2 hE1
  have hab2 := below_next hab1 hb2
  obtain ⟨g0, g1, g2, g3, g4, g5, g6, g7, g8, g9⟩ := evAt hE2
  go_wp2_with fail
  (with_reducible refine (HT.out _).mono ?_)
  rintro x w3 ⟨rfl, hb3⟩
  have hok3 := hok2.below hb3
  have hs12 := hb2.size
  have HO := Lib.hid hok3
  clear g0 g1 g2 g3 g4 g5 g6 g7 g8 g9 hok2 hE1 hE2
  go_wp2_with fail
  (with_reducible refine (write5 e.kind e.order e.item e.qty e.price e.cur e.tax e.who e.stamp e.note w1 _ _ HO.out HBD.out.k0 HBD.out.k1 HBD.out.o0 HBD.out.o1 HBD.out.i0 HBD.out.i1 (HQ.out (by decide)) HBD.out.q1 HBD.out.p0 HBD.out.p1 HBD.out.c0 HBD.out.c1 HBD.out.t0 HBD.out.t1 HBD.out.u HBD.out.s0 HBD.out.s1 HBD.out.n).mono ?_)
  rintro x w4 hgv
  obtain ⟨⟨vv, rfl⟩, hok4, hk4⟩ := gv hgv
  have hbel4 : Below w1.heap.size w1 w4 := by obtain ⟨_, _, _, _, hx⟩ := hok4.at'; exact hx.bel
  have hab4 := below_next hab1 hbel4
  clear hgv hok3 HO
  go_wp2_with fail
  (with_reducible refine (done_any w1 _ _ _ _ hok4 HS.out).mono ?_)
  rintro x w5 ⟨a5, c5, l5, rfl, rfl, ho5, hb5⟩
  have hs4 := hab4.size
  go_wp2_with fail
  refine bodyPost_ret (results_tmp2 rfl _ _ _) rfl ?_
  exact ⟨a5, c5, _, rfl, rfl, own_mono ho5 hs4, below_next hab4 hb5⟩

theorem senc_any (v : Int) (e : Ev) (w : World) : Calls Try.prog 15 #[.int .i64 v, e.val] w (GivesE v e w) := by
  by_cases h : chk v e = 0
  · have hR := right_of h
    have hc : v = 1 ∨ v = 2 ∨ v = 3 ∨ v = 4 ∨ v = 5 := by have := hR.v1; have := hR.v5; omega
    clear hR
    rcases hc with rfl | rfl | rfl | rfl | rfl
    · exact senc_ok1 e w h
    · exact senc_ok2 e w h
    · exact senc_ok3 e w h
    · exact senc_ok4 e w h
    · exact senc_ok5 e w h
  · exact senc_bad v e _ w rfl h
end Go.Proofs.Ytfiplongnnkhmaa
