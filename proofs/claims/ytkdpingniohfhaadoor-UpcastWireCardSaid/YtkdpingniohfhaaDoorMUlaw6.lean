/-
  The walks of UpcastReads and UpcastWire, printed by genuread.py. Condition: the program's table of taxes holds what its text lays; arguments read as their types say.
-/
import Derived.Test.YtkdpingniohfhaaDoorMUreads
import Derived.Test.YtkdpingniohfhaaDoorMRpk
import Derived.Deep.Cut
namespace Go.Proofs.YtkdpingniohfhaaDoor
open Go.RowKit
set_option linter.unusedVariables false

theorem wpList_load_rowW {P : Program} {ops : Array Oper} {rest : List Oper} {o : Oper} {a : Act} {w : World} {Q : Exit → Act → World → Prop} (hw : Region.wanted o (yielded ops a.tmps) = true) (ty : TypeId) (x : Operand) (ho : o.op = .load ty x)
    (g : Nat) (hx : a.eval x = .pointer (some ⟨g, 0, none⟩)) (t : TypeId) (cs : Array Value) (fr : Nat × Nat) (d : TypeDesc) (hg : w.heap[g]? = some (.cells cs t fr))
    (hu : P.underlying ty = some d) (hd : (match d with | .struct _ | .array _ _ => true | _ => false) = true) (hi : (P.info? ty).map (·.size) = some cs.size)
    (h : wpList P ops Q rest (a.put o.dst (.agg cs)) w) : wpList P ops Q (o :: rest) a w :=
  wpList_step fun K hK => by
    rw [if_pos hw]
    exact wp_load_row ty x ho g hx t cs fr d hg hu hd hi (hK _ _ h)

theorem head_chk : chk 1 ⟨2, 7, 3, -2, 5, 0, 0, ⟨#[]⟩, 0, ⟨#[]⟩⟩ = 0 := by decide
theorem uhead_any (w : World) (ht : Tab w) : Calls Tryd.prog 9 #[] w fun x w' => x = .returned (.bool true) ∧ Below w.heap.size w w' := by
  have hc := fun (wx : World) (htx : Tab wx) => chain_any 1 ⟨2, 7, 3, -2, 5, 0, 0, ⟨#[]⟩, 0, ⟨#[]⟩⟩ wx htx
  obtain ⟨h1, h2⟩ := to_ok (f := 1) (t := 5) (by decide) head_chk
  rw [h1, h2, show Ev.steps (5 - 1 : Int).toNat 1 ⟨2, 7, 3, -2, 5, 0, 0, ⟨#[]⟩, 0, ⟨#[]⟩⟩ = ⟨6, 7, 3, 2, 500, 0, 0, ⟨#[111, 108, 100]⟩, 0, ⟨#[]⟩⟩ from rfl] at hc
  unfold pairV Ev.val Ev.cells at hc
  have HC := Lib.hid hc
  clear hc h1 h2
  go_enter Tryd.func9, Tryd.ntmps9
  go_wp2_with fail
  (with_reducible refine (HC.out _ ht).mono ?_)
  rintro x w1 ⟨rfl, hb1⟩
  go_wp2_with fail
  go_ret
  exact ⟨rfl, below_next hb1 (below_made _ _)⟩

def evR : Ev := ⟨1, 9, 0, 0, 0, 0, 0, ⟨#[]⟩, 0, ⟨#[]⟩⟩
def bytesR : List UInt8 := [5, 2, 1, 4, 9]
theorem readR : readE bytesR = (evR, 0) := by kernel_rfl

set_option maxRecDepth 8000 in
set_option maxHeartbeats 3200000 in
theorem reads7_walk (a : Option Addr) (n c : Nat) (l : List UInt8) (w : World) (r : RowAt w a n c 1 (l.map B)) (hs : n * 1 ≤ 140737488351232) (ht : Tab w) :
    Calls Tryd.prog 3 #[.slice a n c] w fun x w' => x = .returned (.bool true) ∧ Below w.heap.size w w' := by
  have h5 := fun (wx : World) (htx : Tab wx) a n c hx => uread_any a n c bytesR wx htx hx
  rw [readR] at h5
  unfold GivesDE evR Ev.val Ev.cells at h5
  dsimp only at h5
  have hcp := fun wx hx => copy_any a n c l wx (by omega) hx
  have hur := fun (wx : World) (htx : Tab wx) a n c hx => uread_any a n c l wx htx hx
  have hrr := fun (wx : World) (htx : Tab wx) hx => ruread_any a n c l wx htx hx
  obtain ⟨z, hz⟩ : ∃ z, readE l = z := ⟨_, rfl⟩
  rw [hz] at hur hrr
  obtain ⟨e, rz⟩ := z
  unfold GivesDE Ev.val Ev.cells at hur hrr
  unfold GivesB at hcp
  simp only at hur hrr
  have hln : l.length = n := by simpa using r.len
  have H5 := Lib.hid h5
  have HCP := Lib.hid hcp
  have HUR := Lib.hid hur
  have HRR := Lib.hid hrr
  have hb0 := below_made w (.cells (bytesR.map B).toArray 5)
  have hrl := rowAt_lit w (bytesR.map B) 5 1 5 rfl (by decide)
  have r0 := r.below hb0
  have hT0 := ht.below hb0
  have HW := Lib.hid (⟨_, rfl⟩ : ∃ w0, w.alloc (.cells (bytesR.map B).toArray 5) = w0)
  clear h5 hcp hur hrr hz hs r ht
  go_enter Tryd.func3, Tryd.ntmps3
  go_wp2_with fail
  rw [show (#[.int .u8 5, .int .u8 2, .int .u8 1, .int .u8 4, .int .u8 9] : Array Value) = (bytesR.map B).toArray from rfl]
  obtain ⟨w0, hw0⟩ := HW.out
  rw [hw0] at hb0 hrl r0 hT0 ⊢
  clear hw0 HW
  (with_reducible refine (H5.out _ hT0 _ _ _ hrl).mono ?_)
  rintro x w1 ⟨rfl, hb1⟩
  have r1 := r0.below hb1
  have hT1 := hT0.below hb1
  have hB1 := below_next hb0 hb1
  clear hrl r0 hT0 hb0 hb1 H5
  go_upto_region 2 with (fail)
  have hm := below_made w1 (.cells evR.cells 25)
  have hE := evB_new w1 evR
  have r2 := r1.below hm
  have hT2 := hT1.below hm
  have hB2 := below_next hB1 hm
  rw [show (#[.int .i64 1, .int .i64 9, .int .i64 0, .int .i64 0, .int .i64 0, .int .i64 0, .int .i64 0, .string ⟨#[]⟩, .int .i64 0, .string ⟨#[]⟩] : Array Value) = evR.cells from rfl]
  obtain ⟨w2, hw2⟩ : ∃ w2, w1.alloc (.cells evR.cells 25) = w2 := ⟨_, rfl⟩
  rw [hw2] at hE r2 hT2 hB2 ⊢
  clear hw2 hm r1 hT1 hB1
  have cE : w2.cell? ⟨w1.heap.size, 1, none⟩ = some (.int .i64 9) := cell_blk hE.eq rfl
  clear hE
  go_wp2_with fail
  (with_reducible refine (HCP.out _ r2).mono ?_)
  rintro x w3 ⟨a3, c3, rfl, ho3, hb3⟩
  have r3 := r2.below hb3
  have m3 := own_rowAt ho3
  have hT3 := hT2.below hb3
  have hB3 := below_next hB2 hb3
  rw [hln] at m3 ⊢
  clear hln ho3 r2 hT2 hB2 hb3 cE
  go_wp2_with fail
  (with_reducible refine (HRR.out _ hT3 r3).mono ?_)
  rintro x w4 ⟨rfl, hb4⟩
  have r4 := r3.below hb4
  have m4 := m3.below hb4
  have hT4 := hT3.below hb4
  have hB4 := below_next hB3 hb4
  clear r3 m3 hT3 hB3 hb4 HRR
  go_upto_region 6 with (fail)
  have hm := below_made w4 (.cells e.cells 25)
  have hX5 := evB_new w4 e
  have r5 := r4.below hm
  have m5 := m4.below hm
  have hT5 := hT4.below hm
  have hB5 := below_next hB4 hm
  rw [show (#[.int .i64 e.kind, .int .i64 e.order, .int .i64 e.item, .int .i64 e.qty, .int .i64 e.price, .int .i64 e.cur, .int .i64 e.tax, .string e.who, .int .i64 e.stamp, .string e.note] : Array Value) = e.cells from rfl]
  obtain ⟨w5, hw5⟩ : ∃ w5, w4.alloc (.cells e.cells 25) = w5 := ⟨_, rfl⟩
  rw [hw5] at hX5 r5 m5 hT5 hB5 ⊢
  clear hw5 hm r4 m4 hT4 hB4
  go_wp2_with fail
  (with_reducible refine (HUR.out _ hT5 _ _ _ m5).mono ?_)
  rintro x w6 ⟨rfl, hb6⟩
  have hX6 := hX5.below hb6
  have r6 := r5.below hb6
  have m6 := m5.below hb6
  have hB6 := below_next hB5 hb6
  clear hX5 r5 m5 hT5 hB5 hb6 HUR
  go_upto_region 7 with (fail)
  have hm := below_made w6 (.cells e.cells 25)
  have hY7 := evB_new w6 e
  have hX7 := hX6.below hm
  have r7 := r6.below hm
  have m7 := m6.below hm
  have hB7 := below_next hB6 hm
  rw [show (#[.int .i64 e.kind, .int .i64 e.order, .int .i64 e.item, .int .i64 e.qty, .int .i64 e.price, .int .i64 e.cur, .int .i64 e.tax, .string e.who, .int .i64 e.stamp, .string e.note] : Array Value) = e.cells from rfl]
  obtain ⟨w7, hw7⟩ : ∃ w7, w6.alloc (.cells e.cells 25) = w7 := ⟨_, rfl⟩
  rw [hw7] at hX7 hY7 r7 m7 hB7 ⊢
  clear hw7 hm r6 m6 hX6 hB6
  go_wp2_with (first
    | (with_reducible refine wpList_load_row rfl 25 (.tmp 8) rfl w6.heap.size rfl _ #[.int .i64 e.kind, .int .i64 e.order, .int .i64 e.item, .int .i64 e.qty, .int .i64 e.price, .int .i64 e.cur, .int .i64 e.tax, .string e.who, .int .i64 e.stamp, .string e.note] (0, 0) _ hY7.lit Tryd.underlying25 rfl (by with_unfolding_all exact info_ev) ?_)
    | (with_reducible refine wpList_load_row rfl 25 (.tmp 6) rfl w4.heap.size rfl _ #[.int .i64 e.kind, .int .i64 e.order, .int .i64 e.item, .int .i64 e.qty, .int .i64 e.price, .int .i64 e.cur, .int .i64 e.tax, .string e.who, .int .i64 e.stamp, .string e.note] (0, 0) _ hX7.lit Tryd.underlying25 rfl (by with_unfolding_all exact info_ev) ?_)
    | (go_at_call 8; refine (same_any _ _ _ l _ _ _ l _ m7 r7).mono ?_; rintro x w8 ⟨rfl, hst⟩; have hB7 := hB7.trans (hst.below _); simp only [beq_self_eq_true]))
  go_ret
  exact ⟨rfl, hB7⟩


set_option maxRecDepth 8000 in
set_option maxHeartbeats 3200000 in
theorem wire7_no (v : Int) (e : Ev) (w : World) (ht : Tab w) (hr : chk v e ≠ 0) :
    Calls Tryd.prog 4 #[.int .i64 v, e.val] w fun x w' => x = .returned (.bool true) ∧ Below w.heap.size w w' := by
  obtain ⟨r, hrr⟩ : ∃ r, chk v e = r := ⟨_, rfl⟩
  have hx : toE v 5 e = zeroEv ∧ toR v 5 e = r := by
    by_cases h : 5 < v
    · obtain ⟨a, b⟩ := to_none (t := 5) (e := e) (.inr h)
      exact ⟨a, by rw [b, ← hrr, chk_none (.inr h)]⟩
    · obtain ⟨a, b⟩ := to_chk (t := 5) (e := e) (by omega) hr
      exact ⟨a, by rw [b, hrr]⟩
  have hp := fun wx => pack_any v e wx
  have hc := fun (wx : World) (htx : Tab wx) => chain_any v e wx htx
  rw [hx.1, hx.2] at hc
  unfold GivesP at hp
  rw [hrr] at hp hr
  unfold pairV at hc
  unfold Ev.val Ev.cells at hp hc
  dsimp only [zeroEv] at hc
  have hrb : (r != 0) = true := by rw [bne_iff_ne]; exact hr
  have HP := Lib.hid hp
  have HC := Lib.hid hc
  clear hp hc hr hrr hx
  unfold Ev.val Ev.cells
  go_enter Tryd.func4, Tryd.ntmps4
  have hb0 := below_made w (.cells e.cells 25)
  have f0 := evB_new w e
  have hT0 := ht.below hb0
  go_upto_region 1 with (fail)
  rw [show (#[.int .i64 e.kind, .int .i64 e.order, .int .i64 e.item, .int .i64 e.qty, .int .i64 e.price, .int .i64 e.cur, .int .i64 e.tax, .string e.who, .int .i64 e.stamp, .string e.note] : Array Value) = e.cells from rfl]
  obtain ⟨wa, hwa⟩ : ∃ wa, w.alloc (.cells e.cells 25) = wa := ⟨_, rfl⟩
  rw [hwa] at hb0 f0 hT0 ⊢
  clear hwa ht
  go_wp2_with fail
  (with_reducible refine (uhead_any _ hT0).mono ?_)
  rintro x w1 ⟨rfl, hb1⟩
  have f1 := f0.below hb1
  have hT1 := hT0.below hb1
  have hB1 := below_next hb0 hb1
  clear f0 hT0 hb0 hb1
  go_wp2_with (with_reducible refine wpList_load_row rfl 25 (.tmp 3) rfl w.heap.size rfl _ #[.int .i64 e.kind, .int .i64 e.order, .int .i64 e.item, .int .i64 e.qty, .int .i64 e.price, .int .i64 e.cur, .int .i64 e.tax, .string e.who, .int .i64 e.stamp, .string e.note] (0, 0) _ f1.lit Tryd.underlying25 rfl (by with_unfolding_all exact info_ev) ?_)
  (with_reducible refine (HP.out _).mono ?_)
  rintro x w2 ⟨a2, c2, l2, rfl, rfl, ho2, hb2⟩
  have f2 := f1.below hb2
  have hT2 := hT1.below hb2
  have hB2 := below_next hB1 hb2
  have r2 := own_rowAt ho2
  clear f1 hT1 hB1 hb2 ho2 HP
  go_wp2_with (with_reducible refine wpList_load_row rfl 25 (.tmp 3) rfl w.heap.size rfl _ #[.int .i64 e.kind, .int .i64 e.order, .int .i64 e.item, .int .i64 e.qty, .int .i64 e.price, .int .i64 e.cur, .int .i64 e.tax, .string e.who, .int .i64 e.stamp, .string e.note] (0, 0) _ f2.lit Tryd.underlying25 rfl (by with_unfolding_all exact info_ev) ?_)
  (with_reducible refine (HC.out _ hT2).mono ?_)
  rintro x w3 ⟨rfl, hb3⟩
  have hT3 := hT2.below hb3
  have hB3 := below_next hB2 hb3
  have r3 := r2.below hb3
  clear f2 hT2 hB2 hb3 r2 HC
  go_upto_region 5 with (fail)
  have hm := below_made w3 (.cells zeroEv.cells 25)
  have hX5 := evB_new w3 zeroEv
  have hT5 := hT3.below hm
  have hB5 := below_next hB3 hm
  have r5 := r3.below hm
  rw [show (#[.int .i64 0, .int .i64 0, .int .i64 0, .int .i64 0, .int .i64 0, .int .i64 0, .int .i64 0, .string ⟨#[]⟩, .int .i64 0, .string ⟨#[]⟩] : Array Value) = zeroEv.cells from rfl]
  obtain ⟨w5, hw5⟩ : ∃ w5, w3.alloc (.cells zeroEv.cells 25) = w5 := ⟨_, rfl⟩
  rw [hw5] at hX5 hT5 hB5 r5 ⊢
  clear hw5 hm hT3 hB3 r3
  go_wp2_with fail
  go_ret
  exact ⟨rfl, hB5⟩

set_option maxRecDepth 8000 in
set_option maxHeartbeats 3200000 in
theorem wire7_yes (v : Int) (e : Ev) (w : World) (ht : Tab w) (hr : chk v e = 0) :
    Calls Tryd.prog 4 #[.int .i64 v, e.val] w fun x w' => x = .returned (.bool true) ∧ Below w.heap.size w w' := by
  have hp := fun wx => pack_any v e wx
  have hc := fun (wx : World) (htx : Tab wx) => chain_any v e wx htx
  rw [(to_five hr).1, (to_five hr).2] at hc
  unfold GivesP at hp
  rw [hr] at hp
  obtain ⟨L, hL⟩ : ∃ L, packL v e = L := ⟨_, rfl⟩
  have hrd := fun (wx : World) (htx : Tab wx) a n c hx => uread_any a n c L wx htx hx
  have hre : readE L = (Ev.steps (5 - v).toNat v e, 0) := by
    unfold readE
    rw [← hL, unp_pack hr]
    simp
  rw [hre] at hrd
  rw [hL] at hp
  obtain ⟨f, hf⟩ : ∃ f, Ev.steps (5 - v).toNat v e = f := ⟨_, rfl⟩
  rw [hf] at hc hrd
  unfold GivesDE at hrd
  unfold pairV at hc
  unfold Ev.val Ev.cells at hp hc hrd
  simp only at hrd
  have HP := Lib.hid hp
  have HC := Lib.hid hc
  have HRD := Lib.hid hrd
  clear hp hc hr hre hL hf hrd
  unfold Ev.val Ev.cells
  go_enter Tryd.func4, Tryd.ntmps4
  have hb0 := below_made w (.cells e.cells 25)
  have f0 := evB_new w e
  have hT0 := ht.below hb0
  go_upto_region 1 with (fail)
  rw [show (#[.int .i64 e.kind, .int .i64 e.order, .int .i64 e.item, .int .i64 e.qty, .int .i64 e.price, .int .i64 e.cur, .int .i64 e.tax, .string e.who, .int .i64 e.stamp, .string e.note] : Array Value) = e.cells from rfl]
  obtain ⟨wa, hwa⟩ : ∃ wa, w.alloc (.cells e.cells 25) = wa := ⟨_, rfl⟩
  rw [hwa] at hb0 f0 hT0 ⊢
  clear hwa ht
  go_wp2_with fail
  (with_reducible refine (uhead_any _ hT0).mono ?_)
  rintro x w1 ⟨rfl, hb1⟩
  have f1 := f0.below hb1
  have hT1 := hT0.below hb1
  have hB1 := below_next hb0 hb1
  clear f0 hT0 hb0 hb1
  go_wp2_with (with_reducible refine wpList_load_row rfl 25 (.tmp 3) rfl w.heap.size rfl _ #[.int .i64 e.kind, .int .i64 e.order, .int .i64 e.item, .int .i64 e.qty, .int .i64 e.price, .int .i64 e.cur, .int .i64 e.tax, .string e.who, .int .i64 e.stamp, .string e.note] (0, 0) _ f1.lit Tryd.underlying25 rfl (by with_unfolding_all exact info_ev) ?_)
  (with_reducible refine (HP.out _).mono ?_)
  rintro x w2 ⟨a2, c2, l2, rfl, rfl, ho2, hb2⟩
  have f2 := f1.below hb2
  have hT2 := hT1.below hb2
  have hB2 := below_next hB1 hb2
  have r2 := own_rowAt ho2
  clear f1 hT1 hB1 hb2 ho2 HP
  go_wp2_with (with_reducible refine wpList_load_row rfl 25 (.tmp 3) rfl w.heap.size rfl _ #[.int .i64 e.kind, .int .i64 e.order, .int .i64 e.item, .int .i64 e.qty, .int .i64 e.price, .int .i64 e.cur, .int .i64 e.tax, .string e.who, .int .i64 e.stamp, .string e.note] (0, 0) _ f2.lit Tryd.underlying25 rfl (by with_unfolding_all exact info_ev) ?_)
  (with_reducible refine (HC.out _ hT2).mono ?_)
  rintro x w3 ⟨rfl, hb3⟩
  have hT3 := hT2.below hb3
  have hB3 := below_next hB2 hb3
  have r3 := r2.below hb3
  clear f2 hT2 hB2 hb3 r2 HC
  go_upto_region 5 with (fail)
  have hm := below_made w3 (.cells f.cells 25)
  have hX5 := evB_new w3 f
  have hT5 := hT3.below hm
  have hB5 := below_next hB3 hm
  have r5 := r3.below hm
  rw [show (#[.int .i64 f.kind, .int .i64 f.order, .int .i64 f.item, .int .i64 f.qty, .int .i64 f.price, .int .i64 f.cur, .int .i64 f.tax, .string f.who, .int .i64 f.stamp, .string f.note] : Array Value) = f.cells from rfl]
  obtain ⟨w5, hw5⟩ : ∃ w5, w3.alloc (.cells f.cells 25) = w5 := ⟨_, rfl⟩
  rw [hw5] at hX5 hT5 hB5 r5 ⊢
  clear hw5 hm hT3 hB3 r3
  go_wp2_with fail
  (with_reducible refine (HRD.out _ hT5 _ _ _ r5).mono ?_)
  rintro x w6 ⟨rfl, hb6⟩
  have hX6 := hX5.below hb6
  have hB6 := below_next hB5 hb6
  clear hX5 hB5 hb6 hT5 r5 HRD
  go_upto_region 10 with (fail)
  have hm := below_made w6 (.cells f.cells 25)
  have hY7 := evB_new w6 f
  have hX7 := hX6.below hm
  have hB7 := below_next hB6 hm
  rw [show (#[.int .i64 f.kind, .int .i64 f.order, .int .i64 f.item, .int .i64 f.qty, .int .i64 f.price, .int .i64 f.cur, .int .i64 f.tax, .string f.who, .int .i64 f.stamp, .string f.note] : Array Value) = f.cells from rfl]
  obtain ⟨w7, hw7⟩ : ∃ w7, w6.alloc (.cells f.cells 25) = w7 := ⟨_, rfl⟩
  rw [hw7] at hX7 hY7 hB7 ⊢
  clear hw7 hm hX6 hB6
  go_wp2_with (first
    | (with_reducible refine wpList_load_rowW (by with_unfolding_all rfl) 25 (.tmp 9) rfl w6.heap.size rfl _ #[.int .i64 f.kind, .int .i64 f.order, .int .i64 f.item, .int .i64 f.qty, .int .i64 f.price, .int .i64 f.cur, .int .i64 f.tax, .string f.who, .int .i64 f.stamp, .string f.note] (0, 0) _ hY7.lit Tryd.underlying25 rfl (by with_unfolding_all exact info_ev) ?_)
    | (with_reducible refine wpList_load_rowW (by with_unfolding_all rfl) 25 (.tmp 7) rfl w3.heap.size rfl _ #[.int .i64 f.kind, .int .i64 f.order, .int .i64 f.item, .int .i64 f.qty, .int .i64 f.price, .int .i64 f.cur, .int .i64 f.tax, .string f.who, .int .i64 f.stamp, .string f.note] (0, 0) _ hX7.lit Tryd.underlying25 rfl (by with_unfolding_all exact info_ev) ?_))
  go_ret
  exact ⟨rfl, hB7⟩

theorem wire7_walk (v : Int) (ev : Value) (e : Ev) (w : World) (v0 : -9223372036854775808 ≤ v) (v1 : v ≤ 9223372036854775807) (he : ev = e.val ∧ e.ok) (ht : Tab w) :
    Calls Tryd.prog 4 #[.int .i64 v, ev] w fun x w' => x = .returned (.bool true) ∧ Below w.heap.size w w' := by
  obtain ⟨rfl, -⟩ := he
  by_cases h : chk v e = 0
  · exact wire7_yes v e w ht h
  · exact wire7_no v e w ht h
end Go.Proofs.YtkdpingniohfhaaDoor
