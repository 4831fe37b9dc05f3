/-
  The record of an event, as data: it is short. No condition.
  The walks of schema's Encode and Pack, printed by gensenc.py. No condition.
-/
import Derived.Test.YtkdpingniohfhaaDoorMTwrite
import Derived.Test.YtkdpingniohfhaaDoorMTb
import Derived.Test.YtkdpingniohfhaaDoorMUchk
import Derived.Test.YtkdpingniohfhaaDoorMSty
namespace Go.Proofs.YtkdpingniohfhaaDoor
open Go.RowKit
set_option linter.unusedVariables false

/-- The fields of a right event of a version. -/
def fieldsE (v : Int) (e : Ev) : List FD :=
  if v = 1 then f1F e.kind e.order e.item e.qty e.price
  else if v = 2 then f2F e.kind e.order e.item e.qty e.price e.cur
  else if v = 3 then f3F e.kind e.order e.item e.qty e.price e.cur e.tax
  else if v = 4 then f4F e.kind e.order e.item e.qty e.price e.cur e.tax e.who
  else f5F e.kind e.order e.item e.qty e.price e.cur e.tax e.who e.stamp e.note
/-- The record of an event; nothing where it is wrong. -/
def encL (v : Int) (e : Ev) : List UInt8 := if chk v e = 0 then recF (fieldsE v e) else []

theorem recF_append (a b : List FD) : recF (a ++ b) = recF a ++ recF b := by unfold recF; rw [List.flatMap_append]
theorem recF_num_le (t v : Nat) (ht : t ≤ 31) (hv : v < 18446744073709551616) : (recF (numF t v)).length ≤ 20 := by
  unfold numF
  split
  · simp [recF]
  · have h1 := enc_len10 (2 * t) (by omega)
    have h2 := enc_len10 v hv
    simp only [recF, List.flatMap_cons, List.flatMap_nil, List.append_nil]
    rw [oneF_num rfl, List.length_append]
    dsimp only
    omega
theorem recF_txt_le (t : Nat) (l : List UInt8) (ht : t ≤ 31) (hl : l.length ≤ 200) : (recF (txtF t l)).length ≤ 220 := by
  unfold txtF
  split
  · simp [recF]
  · have h1 := enc_len10 (2 * t + 1) (by omega)
    have h2 := enc_len10 l.length (by omega)
    simp only [recF, List.flatMap_cons, List.flatMap_nil, List.append_nil]
    rw [oneF_text rfl, List.length_append, List.length_append]
    dsimp only
    omega
/-- The plain bounds of a right event. -/
structure Bd (e : Ev) : Prop where
  k0 : 0 ≤ e.kind
  k1 : e.kind < 9223372036854775808
  o0 : 0 ≤ e.order
  o1 : e.order < 9223372036854775808
  i0 : 0 ≤ e.item
  i1 : e.item < 9223372036854775808
  q0 : -9223372036854775808 ≤ e.qty
  q1 : e.qty < 9223372036854775808
  p0 : 0 ≤ e.price
  p1 : e.price < 9223372036854775808
  c0 : 0 ≤ e.cur
  c1 : e.cur < 9223372036854775808
  t0 : 0 ≤ e.tax
  t1 : e.tax < 9223372036854775808
  u : e.who.size ≤ 200
  s0 : 0 ≤ e.stamp
  s1 : e.stamp < 9223372036854775808
  n : e.note.size ≤ 200
theorem bd_of {v : Int} {e : Ev} (h : Right v e) : Bd e := by
  obtain ⟨h1, h5, k1, kl, us, ns, o, i, q, q3, p, p1, c, c1, t, t2, u, u3, s, s4, n4⟩ := h
  have hl : lastK v ≤ 10 := by unfold lastK; split <;> (try split) <;> (try split) <;> decide
  exact { k0 := by omega, k1 := by omega, o0 := by omega, o1 := by omega, i0 := by omega, i1 := by omega, q0 := by omega, q1 := by omega, p0 := by omega, p1 := by omega, c0 := by omega, c1 := by omega, t0 := by omega, t1 := by omega, u := by omega, s0 := by omega, s1 := by omega, n := by omega }
theorem rec_short (v : Int) (e : Ev) (h : Bd e) : (recF (fieldsE v e)).length ≤ 1024 := by
  obtain ⟨k0, k1, o0, o1, i0, i1, q0, q1, p0, p1, c0, c1, t0, t1, u, s0, s1, n⟩ := h
  obtain ⟨z0, z1⟩ := zig_bd e.qty q0 (by omega)
  have a1 := recF_num_le 1 e.kind.toNat (by decide) (by omega)
  have a2 := recF_num_le 2 e.order.toNat (by decide) (by omega)
  have a3 := recF_num_le 3 e.item.toNat (by decide) (by omega)
  have a4 := recF_num_le 4 e.qty.toNat (by decide) (by omega)
  have a4' := recF_num_le 4 (zigN e.qty).toNat (by decide) (by omega)
  have a5 := recF_num_le 5 e.price.toNat (by decide) (by omega)
  have a6 := recF_num_le 6 e.cur.toNat (by decide) (by omega)
  have a7 := recF_num_le 7 e.tax.toNat (by decide) (by omega)
  have a8 := recF_txt_le 8 e.who.data.toList (by decide) (by simpa using u)
  have a9 := recF_num_le 9 e.stamp.toNat (by decide) (by omega)
  have a10 := recF_txt_le 10 e.note.data.toList (by decide) (by simpa using n)
  unfold fieldsE
  split
  · simp only [f1F, hdF, recF_append, List.length_append]; omega
  split
  · simp only [f2F, f1F, hdF, recF_append, List.length_append]; omega
  split
  · simp only [f3F, hdF, recF_append, List.length_append]; omega
  split
  · simp only [f4F, f3F, hdF, recF_append, List.length_append]; omega
  · simp only [f5F, f4F, f3F, hdF, recF_append, List.length_append]; omega
end Go.Proofs.YtkdpingniohfhaaDoor

namespace Go.Proofs.YtkdpingniohfhaaDoor
open Go.RowKit
set_option linter.unusedVariables false

/-- What Encode gives. -/
def GivesE (v : Int) (e : Ev) (w : World) (x : Ending) (w' : World) : Prop := ∃ a c l, x = .returned (.tuple #[.slice a l c, .int .i64 (chk v e)]) ∧ l = (encL v e).length ∧ w'.ownsRow w.heap.size 5 1 (.slice a l c) l ((encL v e).map B) ∧ Below w.heap.size w w'

theorem senc_bad (v : Int) (e : Ev) (r : Int) (w : World) (hr : chk v e = r) (hr0 : r ≠ 0) : Calls Tryd.prog 16 #[.int .i64 v, e.val] w (GivesE v e w) := by
  have hk := fun wx => chk_any v e wx
  unfold GivesC at hk
  rw [hr] at hk
  have hL : encL v e = [] := by unfold encL; rw [if_neg (by rw [hr]; exact hr0)]
  have HG : Hid (encL v e = [] ∧ chk v e = r) := Lib.hid ⟨hL, hr⟩
  have hrb : (r != 0) = true := by simpa using hr0
  unfold Ev.val Ev.cells at hk ⊢
  have HK := Lib.hid hk
  clear hk hL hr hr0
  unfold GivesE
  rw [HG.out.1, HG.out.2]
  go_enter Tryd.func16, Tryd.ntmps16
  go_wp2_with fail
  (with_reducible refine (HK.out _).mono ?_)
  rintro x w1 ⟨rfl, hb1⟩
  go_wp2_with fail
  refine bodyPost_ret (results_tmp2 rfl _ _ _) rfl ?_
  exact ⟨none, 0, 0, rfl, rfl, World.ownsRow_nil _ _ _ _, below_next (below_made _ _) hb1⟩

theorem wmet1 (e : Ev) (w : World) : (method 241 88 (.agg #[.int .i64 e.kind, .int .i64 e.order, .int .i64 e.item, .int .i64 e.qty, .int .i64 e.price]) "daybook/schema.write").run Tryd.prog w = .ok (76, .agg #[.int .i64 e.kind, .int .i64 e.order, .int .i64 e.item, .int .i64 e.qty, .int .i64 e.price]) w := by kernel_rfl
set_option maxRecDepth 20000 in
set_option maxHeartbeats 1600000 in
theorem senc_ok1 (e : Ev) (w : World) (h : chk 1 e = 0) : Calls Tryd.prog 16 #[.int .i64 1, e.val] w (GivesE 1 e w) := by
  have hR := right_of h
  have hbd := bd_of hR
  have hk := fun wx => chk_any 1 e wx
  unfold GivesC at hk
  rw [h] at hk
  have ht := fun wx => typed_any 1 e wx
  unfold typV at ht
  simp only [if_true, Int.reduceEq, if_false] at ht
  have HG : Hid (encL 1 e = recF (fieldsE 1 e) ∧ chk 1 e = 0) := Lib.hid ⟨by unfold encL; rw [if_pos h], h⟩
  have hsh : (recF (f1F e.kind e.order e.item e.qty e.price)).length ≤ 1024 := rec_short 1 e hbd
  have HS := Lib.hid hsh
  have hq1 : e.qty ≤ 9223372036854775807 := by have := hbd.q1; omega
  have HQ1 := Lib.hid hq1
  have HBD := Lib.hid hbd
  have HQ : Hid (3 ≤ (1 : Int) → 0 ≤ e.qty) := Lib.hid hR.q3
  unfold Ev.val Ev.cells at hk ht ⊢
  have HK := Lib.hid hk
  have HT := Lib.hid ht
  clear hk ht h hR hbd hsh hq1
  unfold GivesE
  rw [HG.out.1, HG.out.2]
  have hm := wmet1 e
  have hbe := below_made w (.cells #[.int .i64 e.kind, .int .i64 e.order, .int .i64 e.item, .int .i64 e.qty, .int .i64 e.price, .int .i64 e.cur, .int .i64 e.tax, .string e.who, .int .i64 e.stamp, .string e.note] 25)
  have hEe := heap_alloc_new w (.cells #[.int .i64 e.kind, .int .i64 e.order, .int .i64 e.item, .int .i64 e.qty, .int .i64 e.price, .int .i64 e.cur, .int .i64 e.tax, .string e.who, .int .i64 e.stamp, .string e.note] 25)
  go_enter Tryd.func16, Tryd.ntmps16
  go_wp2_with fail
  (with_reducible refine (HK.out _).mono ?_)
  rintro x w1 ⟨rfl, hb1⟩
  have hE1 := below_blk' hb1 hEe
  have hab1 := below_next hbe hb1
  clear hbe hEe hb1
  go_wp2_with fail
  (with_reducible refine (new_any _).mono ?_)
  rintro x w2 ⟨rfl, hok2, hb2⟩
  have hE2 := below_blk' hb2 hE1
  have hab2 := below_next hab1 hb2
  obtain ⟨g0, g1, g2, g3, g4, g5, g6, g7, g8, g9⟩ := evAt hE2
  go_wp2_with fail
  (with_reducible refine (HT.out _).mono ?_)
  rintro x w3 ⟨rfl, hb3⟩
  have hok3 := hok2.below hb3
  have hs12 := hb2.size
  have HO := Lib.hid hok3
  clear g0 g1 g2 g3 g4 g5 g6 g7 g8 g9 hok2 hE1 hE2
  go_wp2_with fail
  (with_reducible refine (write1 e.kind e.order e.item e.qty e.price w1 _ _ HO.out HBD.out.k0 HBD.out.k1 HBD.out.o0 HBD.out.o1 HBD.out.i0 HBD.out.i1 HBD.out.q0 HQ1.out HBD.out.p0 HBD.out.p1).mono ?_)
  rintro x w4 hgv
  obtain ⟨⟨vv, rfl⟩, hok4, hk4⟩ := gv hgv
  have hbel4 : Below w1.heap.size w1 w4 := by obtain ⟨_, _, _, _, hx⟩ := hok4.at'; exact hx.bel
  have hab4 := below_next hab1 hbel4
  clear hgv hok3 HO
  go_wp2_with fail
  (with_reducible refine (done_any w1 _ _ _ _ hok4 HS.out).mono ?_)
  rintro x w5 ⟨a5, c5, l5, rfl, rfl, ho5, hb5⟩
  have hs4 := hab4.size
  go_wp2_with fail
  refine bodyPost_ret (results_tmp2 rfl _ _ _) rfl ?_
  exact ⟨a5, c5, _, rfl, rfl, own_mono ho5 hs4, below_next hab4 hb5⟩

theorem wmet2 (e : Ev) (w : World) : (method 241 90 (.agg #[.int .i64 e.kind, .int .i64 e.order, .int .i64 e.item, .int .i64 e.qty, .int .i64 e.price, .int .i64 e.cur]) "daybook/schema.write").run Tryd.prog w = .ok (85, .agg #[.int .i64 e.kind, .int .i64 e.order, .int .i64 e.item, .int .i64 e.qty, .int .i64 e.price, .int .i64 e.cur]) w := by kernel_rfl
set_option maxRecDepth 20000 in
set_option maxHeartbeats 1600000 in
theorem senc_ok2 (e : Ev) (w : World) (h : chk 2 e = 0) : Calls Tryd.prog 16 #[.int .i64 2, e.val] w (GivesE 2 e w) := by
  have hR := right_of h
  have hbd := bd_of hR
  have hk := fun wx => chk_any 2 e wx
  unfold GivesC at hk
  rw [h] at hk
  have ht := fun wx => typed_any 2 e wx
  unfold typV at ht
  simp only [if_true, Int.reduceEq, if_false] at ht
  have HG : Hid (encL 2 e = recF (fieldsE 2 e) ∧ chk 2 e = 0) := Lib.hid ⟨by unfold encL; rw [if_pos h], h⟩
  have hsh : (recF (f2F e.kind e.order e.item e.qty e.price e.cur)).length ≤ 1024 := rec_short 2 e hbd
  have HS := Lib.hid hsh
  have hq1 : e.qty ≤ 9223372036854775807 := by have := hbd.q1; omega
  have HQ1 := Lib.hid hq1
  have HBD := Lib.hid hbd
  have HQ : Hid (3 ≤ (2 : Int) → 0 ≤ e.qty) := Lib.hid hR.q3
  unfold Ev.val Ev.cells at hk ht ⊢
  have HK := Lib.hid hk
  have HT := Lib.hid ht
  clear hk ht h hR hbd hsh hq1
  unfold GivesE
  rw [HG.out.1, HG.out.2]
  have hm := wmet2 e
  have hbe := below_made w (.cells #[.int .i64 e.kind, .int .i64 e.order, .int .i64 e.item, .int .i64 e.qty, .int .i64 e.price, .int .i64 e.cur, .int .i64 e.tax, .string e.who, .int .i64 e.stamp, .string e.note] 25)
  have hEe := heap_alloc_new w (.cells #[.int .i64 e.kind, .int .i64 e.order, .int .i64 e.item, .int .i64 e.qty, .int .i64 e.price, .int .i64 e.cur, .int .i64 e.tax, .string e.who, .int .i64 e.stamp, .string e.note] 25)
  go_enter Tryd.func16, Tryd.ntmps16
  go_wp2_with fail
  (with_reducible refine (HK.out _).mono ?_)
  rintro x w1 ⟨rfl, hb1⟩
  have hE1 := below_blk' hb1 hEe
  have hab1 := below_next hbe hb1
  clear hbe hEe hb1
  go_wp2_with fail
  (with_reducible refine (new_any _).mono ?_)
  rintro x w2 ⟨rfl, hok2, hb2⟩
  have hE2 := below_blk' hb2 hE1
  have hab2 := below_next hab1 hb2
  obtain ⟨g0, g1, g2, g3, g4, g5, g6, g7, g8, g9⟩ := evAt hE2
  go_wp2_with fail
  (with_reducible refine (HT.out _).mono ?_)
  rintro x w3 ⟨rfl, hb3⟩
  have hok3 := hok2.below hb3
  have hs12 := hb2.size
  have HO := Lib.hid hok3
  clear g0 g1 g2 g3 g4 g5 g6 g7 g8 g9 hok2 hE1 hE2
  go_wp2_with fail
  (with_reducible refine (write2 e.kind e.order e.item e.qty e.price e.cur w1 _ _ HO.out HBD.out.k0 HBD.out.k1 HBD.out.o0 HBD.out.o1 HBD.out.i0 HBD.out.i1 HBD.out.q0 HQ1.out HBD.out.p0 HBD.out.p1 HBD.out.c0 HBD.out.c1).mono ?_)
  rintro x w4 hgv
  obtain ⟨⟨vv, rfl⟩, hok4, hk4⟩ := gv hgv
  have hbel4 : Below w1.heap.size w1 w4 := by obtain ⟨_, _, _, _, hx⟩ := hok4.at'; exact hx.bel
  have hab4 := below_next hab1 hbel4
  clear hgv hok3 HO
  go_wp2_with fail
  (with_reducible refine (done_any w1 _ _ _ _ hok4 HS.out).mono ?_)
  rintro x w5 ⟨a5, c5, l5, rfl, rfl, ho5, hb5⟩
  have hs4 := hab4.size
  go_wp2_with fail
  refine bodyPost_ret (results_tmp2 rfl _ _ _) rfl ?_
  exact ⟨a5, c5, _, rfl, rfl, own_mono ho5 hs4, below_next hab4 hb5⟩

theorem wmet3 (e : Ev) (w : World) : (method 241 92 (.agg #[.int .i64 e.kind, .int .i64 e.order, .int .i64 e.item, .int .i64 e.qty, .int .i64 e.price, .int .i64 e.cur, .int .i64 e.tax]) "daybook/schema.write").run Tryd.prog w = .ok (89, .agg #[.int .i64 e.kind, .int .i64 e.order, .int .i64 e.item, .int .i64 e.qty, .int .i64 e.price, .int .i64 e.cur, .int .i64 e.tax]) w := by kernel_rfl
set_option maxRecDepth 20000 in
set_option maxHeartbeats 1600000 in
theorem senc_ok3 (e : Ev) (w : World) (h : chk 3 e = 0) : Calls Tryd.prog 16 #[.int .i64 3, e.val] w (GivesE 3 e w) := by
  have hR := right_of h
  have hbd := bd_of hR
  have hk := fun wx => chk_any 3 e wx
  unfold GivesC at hk
  rw [h] at hk
  have ht := fun wx => typed_any 3 e wx
  unfold typV at ht
  simp only [if_true, Int.reduceEq, if_false] at ht
  have HG : Hid (encL 3 e = recF (fieldsE 3 e) ∧ chk 3 e = 0) := Lib.hid ⟨by unfold encL; rw [if_pos h], h⟩
  have hsh : (recF (f3F e.kind e.order e.item e.qty e.price e.cur e.tax)).length ≤ 1024 := rec_short 3 e hbd
  have HS := Lib.hid hsh
  have hq1 : e.qty ≤ 9223372036854775807 := by have := hbd.q1; omega
  have HQ1 := Lib.hid hq1
  have HBD := Lib.hid hbd
  have HQ : Hid (3 ≤ (3 : Int) → 0 ≤ e.qty) := Lib.hid hR.q3
  unfold Ev.val Ev.cells at hk ht ⊢
  have HK := Lib.hid hk
  have HT := Lib.hid ht
  clear hk ht h hR hbd hsh hq1
  unfold GivesE
  rw [HG.out.1, HG.out.2]
  have hm := wmet3 e
  have hbe := below_made w (.cells #[.int .i64 e.kind, .int .i64 e.order, .int .i64 e.item, .int .i64 e.qty, .int .i64 e.price, .int .i64 e.cur, .int .i64 e.tax, .string e.who, .int .i64 e.stamp, .string e.note] 25)
  have hEe := heap_alloc_new w (.cells #[.int .i64 e.kind, .int .i64 e.order, .int .i64 e.item, .int .i64 e.qty, .int .i64 e.price, .int .i64 e.cur, .int .i64 e.tax, .string e.who, .int .i64 e.stamp, .string e.note] 25)
  go_enter Tryd.func16, Tryd.ntmps16
  go_wp2_with fail
  (with_reducible refine (HK.out _).mono ?_)
  rintro x w1 ⟨rfl, hb1⟩
  have hE1 := below_blk' hb1 hEe
  have hab1 := below_next hbe hb1
  clear hbe hEe hb1
  go_wp2_with fail
  (with_reducible refine (new_any _).mono ?_)
  rintro x w2 ⟨rfl, hok2, hb2⟩
  have hE2 := below_blk' hb2 hE1
  have hab2 := below_next hab1 hb2
  obtain ⟨g0, g1, g2, g3, g4, g5, g6, g7, g8, g9⟩ := evAt hE2
  go_wp2_with fail
  (with_reducible refine (HT.out _).mono ?_)
  rintro x w3 ⟨rfl, hb3⟩
  have hok3 := hok2.below hb3
  have hs12 := hb2.size
  have HO := Lib.hid hok3
  clear g0 g1 g2 g3 g4 g5 g6 g7 g8 g9 hok2 hE1 hE2
  go_wp2_with fail
  (with_reducible refine (write3 e.kind e.order e.item e.qty e.price e.cur e.tax w1 _ _ HO.out HBD.out.k0 HBD.out.k1 HBD.out.o0 HBD.out.o1 HBD.out.i0 HBD.out.i1 (HQ.out (by decide)) HBD.out.q1 HBD.out.p0 HBD.out.p1 HBD.out.c0 HBD.out.c1 HBD.out.t0 HBD.out.t1).mono ?_)
  rintro x w4 hgv
  obtain ⟨⟨vv, rfl⟩, hok4, hk4⟩ := gv hgv
  have hbel4 : Below w1.heap.size w1 w4 := by obtain ⟨_, _, _, _, hx⟩ := hok4.at'; exact hx.bel
  have hab4 := below_next hab1 hbel4
  clear hgv hok3 HO
  go_wp2_with fail
  (with_reducible refine (done_any w1 _ _ _ _ hok4 HS.out).mono ?_)
  rintro x w5 ⟨a5, c5, l5, rfl, rfl, ho5, hb5⟩
  have hs4 := hab4.size
  go_wp2_with fail
  refine bodyPost_ret (results_tmp2 rfl _ _ _) rfl ?_
  exact ⟨a5, c5, _, rfl, rfl, own_mono ho5 hs4, below_next hab4 hb5⟩

theorem wmet4 (e : Ev) (w : World) : (method 241 94 (.agg #[.int .i64 e.kind, .int .i64 e.order, .int .i64 e.item, .int .i64 e.qty, .int .i64 e.price, .int .i64 e.cur, .int .i64 e.tax, .string e.who]) "daybook/schema.write").run Tryd.prog w = .ok (93, .agg #[.int .i64 e.kind, .int .i64 e.order, .int .i64 e.item, .int .i64 e.qty, .int .i64 e.price, .int .i64 e.cur, .int .i64 e.tax, .string e.who]) w := by kernel_rfl
set_option maxRecDepth 20000 in
set_option maxHeartbeats 1600000 in
theorem senc_ok4 (e : Ev) (w : World) (h : chk 4 e = 0) : Calls Tryd.prog 16 #[.int .i64 4, e.val] w (GivesE 4 e w) := by
  have hR := right_of h
  have hbd := bd_of hR
  have hk := fun wx => chk_any 4 e wx
  unfold GivesC at hk
  rw [h] at hk
  have ht := fun wx => typed_any 4 e wx
  unfold typV at ht
  simp only [if_true, Int.reduceEq, if_false] at ht
  have HG : Hid (encL 4 e = recF (fieldsE 4 e) ∧ chk 4 e = 0) := Lib.hid ⟨by unfold encL; rw [if_pos h], h⟩
  have hsh : (recF (f4F e.kind e.order e.item e.qty e.price e.cur e.tax e.who)).length ≤ 1024 := rec_short 4 e hbd
  have HS := Lib.hid hsh
  have hq1 : e.qty ≤ 9223372036854775807 := by have := hbd.q1; omega
  have HQ1 := Lib.hid hq1
  have HBD := Lib.hid hbd
  have HQ : Hid (3 ≤ (4 : Int) → 0 ≤ e.qty) := Lib.hid hR.q3
  unfold Ev.val Ev.cells at hk ht ⊢
  have HK := Lib.hid hk
  have HT := Lib.hid ht
  clear hk ht h hR hbd hsh hq1
  unfold GivesE
  rw [HG.out.1, HG.out.2]
  have hm := wmet4 e
  have hbe := below_made w (.cells #[.int .i64 e.kind, .int .i64 e.order, .int .i64 e.item, .int .i64 e.qty, .int .i64 e.price, .int .i64 e.cur, .int .i64 e.tax, .string e.who, .int .i64 e.stamp, .string e.note] 25)
  have hEe := heap_alloc_new w (.cells #[.int .i64 e.kind, .int .i64 e.order, .int .i64 e.item, .int .i64 e.qty, .int .i64 e.price, .int .i64 e.cur, .int .i64 e.tax, .string e.who, .int .i64 e.stamp, .string e.note] 25)
  go_enter Tryd.func16, Tryd.ntmps16
  go_wp2_with fail
  (with_reducible refine (HK.out _).mono ?_)
  rintro x w1 ⟨rfl, hb1⟩
  have hE1 := below_blk' hb1 hEe
  have hab1 := below_next hbe hb1
  clear hbe hEe hb1
  go_wp2_with fail
  (with_reducible refine (new_any _).mono ?_)
  rintro x w2 ⟨rfl, hok2, hb2⟩
  have hE2 := below_blk' hb2 hE1
  have hab2 := below_next hab1 hb2
  obtain ⟨g0, g1, g2, g3, g4, g5, g6, g7, g8, g9⟩ := evAt hE2
  go_wp2_with fail
  (with_reducible refine (HT.out _).mono ?_)
  rintro x w3 ⟨rfl, hb3⟩
  have hok3 := hok2.below hb3
  have hs12 := hb2.size
  have HO := Lib.hid hok3
  clear g0 g1 g2 g3 g4 g5 g6 g7 g8 g9 hok2 hE1 hE2
  go_wp2_with fail
  (with_reducible refine (write4 e.kind e.order e.item e.qty e.price e.cur e.tax e.who w1 _ _ HO.out HBD.out.k0 HBD.out.k1 HBD.out.o0 HBD.out.o1 HBD.out.i0 HBD.out.i1 (HQ.out (by decide)) HBD.out.q1 HBD.out.p0 HBD.out.p1 HBD.out.c0 HBD.out.c1 HBD.out.t0 HBD.out.t1 HBD.out.u).mono ?_)
  rintro x w4 hgv
  obtain ⟨⟨vv, rfl⟩, hok4, hk4⟩ := gv hgv
  have hbel4 : Below w1.heap.size w1 w4 := by obtain ⟨_, _, _, _, hx⟩ := hok4.at'; exact hx.bel
  have hab4 := below_next hab1 hbel4
  clear hgv hok3 HO
  go_wp2_with fail
  (with_reducible refine (done_any w1 _ _ _ _ hok4 HS.out).mono ?_)
  rintro x w5 ⟨a5, c5, l5, rfl, rfl, ho5, hb5⟩
  have hs4 := hab4.size
  go_wp2_with fail
  refine bodyPost_ret (results_tmp2 rfl _ _ _) rfl ?_
  exact ⟨a5, c5, _, rfl, rfl, own_mono ho5 hs4, below_next hab4 hb5⟩

theorem wmet5 (e : Ev) (w : World) : (method 241 96 (.agg #[.int .i64 e.kind, .int .i64 e.order, .int .i64 e.item, .int .i64 e.qty, .int .i64 e.price, .int .i64 e.cur, .int .i64 e.tax, .string e.who, .int .i64 e.stamp, .string e.note]) "daybook/schema.write").run Tryd.prog w = .ok (99, .agg #[.int .i64 e.kind, .int .i64 e.order, .int .i64 e.item, .int .i64 e.qty, .int .i64 e.price, .int .i64 e.cur, .int .i64 e.tax, .string e.who, .int .i64 e.stamp, .string e.note]) w := by kernel_rfl
set_option maxRecDepth 20000 in
set_option maxHeartbeats 1600000 in
theorem senc_ok5 (e : Ev) (w : World) (h : chk 5 e = 0) : Calls Tryd.prog 16 #[.int .i64 5, e.val] w (GivesE 5 e w) := by
  have hR := right_of h
  have hbd := bd_of hR
  have hk := fun wx => chk_any 5 e wx
  unfold GivesC at hk
  rw [h] at hk
  have ht := fun wx => typed_any 5 e wx
  unfold typV at ht
  simp only [if_true, Int.reduceEq, if_false] at ht
  have HG : Hid (encL 5 e = recF (fieldsE 5 e) ∧ chk 5 e = 0) := Lib.hid ⟨by unfold encL; rw [if_pos h], h⟩
  have hsh : (recF (f5F e.kind e.order e.item e.qty e.price e.cur e.tax e.who e.stamp e.note)).length ≤ 1024 := rec_short 5 e hbd
  have HS := Lib.hid hsh
  have hq1 : e.qty ≤ 9223372036854775807 := by have := hbd.q1; omega
  have HQ1 := Lib.hid hq1
  have HBD := Lib.hid hbd
  have HQ : Hid (3 ≤ (5 : Int) → 0 ≤ e.qty) := Lib.hid hR.q3
  unfold Ev.val Ev.cells at hk ht ⊢
  have HK := Lib.hid hk
  have HT := Lib.hid ht
  clear hk ht h hR hbd hsh hq1
  unfold GivesE
  rw [HG.out.1, HG.out.2]
  have hm := wmet5 e
  have hbe := below_made w (.cells #[.int .i64 e.kind, .int .i64 e.order, .int .i64 e.item, .int .i64 e.qty, .int .i64 e.price, .int .i64 e.cur, .int .i64 e.tax, .string e.who, .int .i64 e.stamp, .string e.note] 25)
  have hEe := heap_alloc_new w (.cells #[.int .i64 e.kind, .int .i64 e.order, .int .i64 e.item, .int .i64 e.qty, .int .i64 e.price, .int .i64 e.cur, .int .i64 e.tax, .string e.who, .int .i64 e.stamp, .string e.note] 25)
  go_enter Tryd.func16, Tryd.ntmps16
  go_wp2_with fail
  (with_reducible refine (HK.out _).mono ?_)
  rintro x w1 ⟨rfl, hb1⟩
  have hE1 := below_blk' hb1 hEe
  have hab1 := below_next hbe hb1
  clear hbe hEe hb1
  go_wp2_with fail
  (with_reducible refine (new_any _).mono ?_)
  rintro x w2 ⟨rfl, hok2, hb2⟩
  have hE2 := below_blk' hb2 hE1
  have hab2 := below_next hab1 hb2
  obtain ⟨g0, g1, g2, g3, g4, g5, g6, g7, g8, g9⟩ := evAt hE2
  go_wp2_with fail
  (with_reducible refine (HT.out _).mono ?_)
  rintro x w3 ⟨rfl, hb3⟩
  have hok3 := hok2.below hb3
  have hs12 := hb2.size
  have HO := Lib.hid hok3
  clear g0 g1 g2 g3 g4 g5 g6 g7 g8 g9 hok2 hE1 hE2
  go_wp2_with fail
  (with_reducible refine (write5 e.kind e.order e.item e.qty e.price e.cur e.tax e.who e.stamp e.note w1 _ _ HO.out HBD.out.k0 HBD.out.k1 HBD.out.o0 HBD.out.o1 HBD.out.i0 HBD.out.i1 (HQ.out (by decide)) HBD.out.q1 HBD.out.p0 HBD.out.p1 HBD.out.c0 HBD.out.c1 HBD.out.t0 HBD.out.t1 HBD.out.u HBD.out.s0 HBD.out.s1 HBD.out.n).mono ?_)
  rintro x w4 hgv
  obtain ⟨⟨vv, rfl⟩, hok4, hk4⟩ := gv hgv
  have hbel4 : Below w1.heap.size w1 w4 := by obtain ⟨_, _, _, _, hx⟩ := hok4.at'; exact hx.bel
  have hab4 := below_next hab1 hbel4
  clear hgv hok3 HO
  go_wp2_with fail
  (with_reducible refine (done_any w1 _ _ _ _ hok4 HS.out).mono ?_)
  rintro x w5 ⟨a5, c5, l5, rfl, rfl, ho5, hb5⟩
  have hs4 := hab4.size
  go_wp2_with fail
  refine bodyPost_ret (results_tmp2 rfl _ _ _) rfl ?_
  exact ⟨a5, c5, _, rfl, rfl, own_mono ho5 hs4, below_next hab4 hb5⟩

theorem senc_any (v : Int) (e : Ev) (w : World) : Calls Tryd.prog 16 #[.int .i64 v, e.val] w (GivesE v e w) := by
  by_cases h : chk v e = 0
  · have hR := right_of h
    have hc : v = 1 ∨ v = 2 ∨ v = 3 ∨ v = 4 ∨ v = 5 := by have := hR.v1; have := hR.v5; omega
    clear hR
    rcases hc with rfl | rfl | rfl | rfl | rfl
    · exact senc_ok1 e w h
    · exact senc_ok2 e w h
    · exact senc_ok3 e w h
    · exact senc_ok4 e w h
    · exact senc_ok5 e w h
  · exact senc_bad v e _ w rfl h
end Go.Proofs.YtkdpingniohfhaaDoor
