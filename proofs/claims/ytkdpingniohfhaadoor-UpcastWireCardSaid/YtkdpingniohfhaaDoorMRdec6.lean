/-
  The walk of the reference's Decode of an event. Condition: the argument reads as bytes.
-/
import Derived.Test.YtkdpingniohfhaaDoorMSref
import Derived.Test.YtkdpingniohfhaaDoorMSunp
import Derived.Deep.RegionHeld3
import Derived.IntWalk
namespace Go.Proofs.YtkdpingniohfhaaDoor
open Go.RowKit
set_option linter.unusedVariables false

theorem rclamp_any (n : Nat) (h : n < 18446744073709551616) (w : World) : Calls Tryd.prog 28 #[.int .u64 (n : Int)] w fun x w' => x = .returned (.int .i64 (clampI n)) ∧ w = w' := by
  obtain ⟨u, hu⟩ : ∃ u : Int, (n : Int) = u := ⟨_, rfl⟩
  have h0 : 0 ≤ u := by omega
  have h1 : u < 18446744073709551616 := by omega
  by_cases hn : 4611686018427387904 < u
  · have HQ : Hid (clampI n = 4611686018427387904) := Lib.hid (by unfold clampI; rw [if_neg (by omega)])
    rw [hu]
    clear hu h
    go_enter Tryd.func28, Tryd.ntmps28
    go_wp2
    go_ret
    rw [HQ.out]
    exact ⟨rfl, rfl⟩
  · have HQ : Hid (clampI n = u) := Lib.hid (by unfold clampI; split <;> omega)
    rw [hu]
    clear hu h
    go_enter Tryd.func28, Tryd.ntmps28
    go_wp2
    go_ret
    rw [HQ.out]
    exact ⟨rfl, rfl⟩

theorem rzag_fld {T U : Nat} {X : Bool} {D : List UInt8} (h : RightF ⟨T, X, U, D⟩) (w : World) : Calls Tryd.prog 41 #[.int .u64 (U : Int)] w fun x w' => x = .returned (.int .i64 (zagN (U : Int))) ∧ w = w' :=
  rzag_any (U : Int) w (Int.natCast_nonneg _) (by have h3 : U < 18446744073709551616 := h.2.2.1; omega)
theorem keepFar {w : World} {M t F j : Nat} {v u : Value} (h : M ≠ F) (k : w.cell? ⟨F, j, none⟩ = some u) : (w.setCell ⟨M, t, none⟩ v).drew.cell? ⟨F, j, none⟩ = some u := (World.cell?_setCell_far w ⟨M, t, none⟩ ⟨F, j, none⟩ v h).trans k
theorem set8_blk {w : World} {b : Nat} {t : TypeId} {c0 c1 c2 c3 c4 c5 c6 c7 c8 c9 v0 v1 v2 v3 v4 v5 v6 v8 : Value} (h : w.heap[b]? = some (.cells #[c0, c1, c2, c3, c4, c5, c6, c7, c8, c9] t (0, 0))) :
    ((((((((w.setCell ⟨b, 0, none⟩ v0).setCell ⟨b, 1, none⟩ v1).setCell ⟨b, 2, none⟩ v2).setCell ⟨b, 3, none⟩ v3).setCell ⟨b, 4, none⟩ v4).setCell ⟨b, 5, none⟩ v5).setCell ⟨b, 6, none⟩ v6).setCell ⟨b, 8, none⟩ v8).heap[b]? = some (.cells #[v0, v1, v2, v3, v4, v5, v6, c7, v8, c9] t (0, 0)) := by
  have h0 : (w.setCell ⟨b, 0, none⟩ v0).heap[b]? = some (.cells #[v0, c1, c2, c3, c4, c5, c6, c7, c8, c9] t (0, 0)) := blk_set (j := 0) (u := v0) h
  have h1 : ((w.setCell ⟨b, 0, none⟩ v0).setCell ⟨b, 1, none⟩ v1).heap[b]? = some (.cells #[v0, v1, c2, c3, c4, c5, c6, c7, c8, c9] t (0, 0)) := blk_set (j := 1) (u := v1) h0
  have h2 : (((w.setCell ⟨b, 0, none⟩ v0).setCell ⟨b, 1, none⟩ v1).setCell ⟨b, 2, none⟩ v2).heap[b]? = some (.cells #[v0, v1, v2, c3, c4, c5, c6, c7, c8, c9] t (0, 0)) := blk_set (j := 2) (u := v2) h1
  have h3 : ((((w.setCell ⟨b, 0, none⟩ v0).setCell ⟨b, 1, none⟩ v1).setCell ⟨b, 2, none⟩ v2).setCell ⟨b, 3, none⟩ v3).heap[b]? = some (.cells #[v0, v1, v2, v3, c4, c5, c6, c7, c8, c9] t (0, 0)) := blk_set (j := 3) (u := v3) h2
  have h4 : (((((w.setCell ⟨b, 0, none⟩ v0).setCell ⟨b, 1, none⟩ v1).setCell ⟨b, 2, none⟩ v2).setCell ⟨b, 3, none⟩ v3).setCell ⟨b, 4, none⟩ v4).heap[b]? = some (.cells #[v0, v1, v2, v3, v4, c5, c6, c7, c8, c9] t (0, 0)) := blk_set (j := 4) (u := v4) h3
  have h5 : ((((((w.setCell ⟨b, 0, none⟩ v0).setCell ⟨b, 1, none⟩ v1).setCell ⟨b, 2, none⟩ v2).setCell ⟨b, 3, none⟩ v3).setCell ⟨b, 4, none⟩ v4).setCell ⟨b, 5, none⟩ v5).heap[b]? = some (.cells #[v0, v1, v2, v3, v4, v5, c6, c7, c8, c9] t (0, 0)) := blk_set (j := 5) (u := v5) h4
  have h6 : (((((((w.setCell ⟨b, 0, none⟩ v0).setCell ⟨b, 1, none⟩ v1).setCell ⟨b, 2, none⟩ v2).setCell ⟨b, 3, none⟩ v3).setCell ⟨b, 4, none⟩ v4).setCell ⟨b, 5, none⟩ v5).setCell ⟨b, 6, none⟩ v6).heap[b]? = some (.cells #[v0, v1, v2, v3, v4, v5, v6, c7, c8, c9] t (0, 0)) := blk_set (j := 6) (u := v6) h5
  have h8 : ((((((((w.setCell ⟨b, 0, none⟩ v0).setCell ⟨b, 1, none⟩ v1).setCell ⟨b, 2, none⟩ v2).setCell ⟨b, 3, none⟩ v3).setCell ⟨b, 4, none⟩ v4).setCell ⟨b, 5, none⟩ v5).setCell ⟨b, 6, none⟩ v6).setCell ⟨b, 8, none⟩ v8).heap[b]? = some (.cells #[v0, v1, v2, v3, v4, v5, v6, c7, v8, c9] t (0, 0)) := blk_set (j := 8) (u := v8) h6
  exact h8
theorem set8_below {B : Nat} {a w : World} {b : Nat} {v0 v1 v2 v3 v4 v5 v6 v8 : Value} (h : Below B a w) (hb : B ≤ b) : Below B a ((((((((w.setCell ⟨b, 0, none⟩ v0).setCell ⟨b, 1, none⟩ v1).setCell ⟨b, 2, none⟩ v2).setCell ⟨b, 3, none⟩ v3).setCell ⟨b, 4, none⟩ v4).setCell ⟨b, 5, none⟩ v5).setCell ⟨b, 6, none⟩ v6).setCell ⟨b, 8, none⟩ v8) :=
  ((((((((h.setCell (p := ⟨b, 0, none⟩) hb v0).setCell (p := ⟨b, 1, none⟩) hb v1).setCell (p := ⟨b, 2, none⟩) hb v2).setCell (p := ⟨b, 3, none⟩) hb v3).setCell (p := ⟨b, 4, none⟩) hb v4).setCell (p := ⟨b, 5, none⟩) hb v5).setCell (p := ⟨b, 6, none⟩) hb v6).setCell (p := ⟨b, 8, none⟩) hb v8)
theorem set8_other {w : World} {b k : Nat} {v0 v1 v2 v3 v4 v5 v6 v8 : Value} (hk : k ≠ b) : ((((((((w.setCell ⟨b, 0, none⟩ v0).setCell ⟨b, 1, none⟩ v1).setCell ⟨b, 2, none⟩ v2).setCell ⟨b, 3, none⟩ v3).setCell ⟨b, 4, none⟩ v4).setCell ⟨b, 5, none⟩ v5).setCell ⟨b, 6, none⟩ v6).setCell ⟨b, 8, none⟩ v8).heap[k]? = w.heap[k]? := by
  rw [Below.heap_setCell _ _ _ _ (show k ≠ b from hk), Below.heap_setCell _ _ _ _ (show k ≠ b from hk), Below.heap_setCell _ _ _ _ (show k ≠ b from hk), Below.heap_setCell _ _ _ _ (show k ≠ b from hk), Below.heap_setCell _ _ _ _ (show k ≠ b from hk), Below.heap_setCell _ _ _ _ (show k ≠ b from hk), Below.heap_setCell _ _ _ _ (show k ≠ b from hk), Below.heap_setCell _ _ _ _ (show k ≠ b from hk)]
theorem mk11 (w : World) : (Instr.makeSlice 79 (.int .i64 11) (.int .i64 11)).run Tryd.prog w = .ok (.slice (some ⟨w.heap.size, 0, none⟩) 11 11) (w.alloc (.cells (numsA fun _ => 0) 3)) := by kernel_rfl

/-- The reference's state in memory: the two blocks of results, the numbers, the event, the fields. -/
structure RefIn (w0 wr : World) (R M E : Nat) (ds : List FD) (a : Option Addr) (n c : Nat) (ms : List Fld) (g : Nat → Int) (u s : ByteArray) : Prop where
  fs : FsIn w0 wr ds a n c ms
  ret : wr.heap[R]? = some (.cells (default : Ev).cells 25 (0, 0))
  non : wr.heap[R + 1]? = some (.cells (default : Ev).cells 25 (0, 0))
  nums : wr.heap[M]? = some (.cells (numsA g) 3 (0, 0))
  ev : wr.heap[E]? = some (.cells #[.int .i64 0, .int .i64 0, .int .i64 0, .int .i64 0, .int .i64 0, .int .i64 0, .int .i64 0, .string u, .int .i64 0, .string s] 25 (0, 0))
  b1 : R + 1 < M
  b2 : M < E
  bw : w0.heap.size ≤ M
theorem RefIn.below {w0 wr w' : World} {R M E : Nat} {ds : List FD} {a : Option Addr} {n c : Nat} {ms : List Fld} {g : Nat → Int} {u s : ByteArray} (h : RefIn w0 wr R M E ds a n c ms g u s) (hb : Below wr.heap.size wr w') : RefIn w0 w' R M E ds a n c ms g u s :=
  ⟨h.fs.below hb, below_blk' hb h.ret, below_blk' hb h.non, below_blk' hb h.nums, below_blk' hb h.ev, h.b1, h.b2, h.bw⟩
theorem RefIn.num {w0 wr : World} {R M E : Nat} {ds : List FD} {a : Option Addr} {n c : Nat} {ms : List Fld} {g : Nat → Int} {u s : ByteArray} (h : RefIn w0 wr R M E ds a n c ms g u s) (t : Nat) (ht : t ≤ 10) (x : Int) : RefIn w0 (wr.setCell ⟨M, t, none⟩ (.int .i64 x)) R M E ds a n c ms (fun r => if r = t then x else g r) u s := by
  have k := blk_set (j := t) (u := .int .i64 x) h.nums
  rw [numsA_set g t x ht] at k
  have h1 := h.b1
  have h2 := h.b2
  exact ⟨h.fs.grown (grown_set wr M t _) (t := 3) (by decide) (by decide) (fun k e => by cases e; exact ⟨_, _, h.nums⟩) (fun k e => by cases e; exact h.bw),
    (Below.heap_setCell wr ⟨M, t, none⟩ _ R (by show R ≠ M; omega)).trans h.ret, (Below.heap_setCell wr ⟨M, t, none⟩ _ (R + 1) (by show R + 1 ≠ M; omega)).trans h.non, k, (Below.heap_setCell wr ⟨M, t, none⟩ _ E (by show E ≠ M; omega)).trans h.ev, h.b1, h.b2, h.bw⟩
theorem RefIn.cell {w0 wr : World} {R M E : Nat} {ds : List FD} {a : Option Addr} {n c : Nat} {ms : List Fld} {g : Nat → Int} {u s : ByteArray} (h : RefIn w0 wr R M E ds a n c ms g u s) (j : Nat) (v : Value) :
    FsIn w0 (wr.setCell ⟨E, j, none⟩ v) ds a n c ms ∧ (wr.setCell ⟨E, j, none⟩ v).heap[R]? = wr.heap[R]? ∧ (wr.setCell ⟨E, j, none⟩ v).heap[R + 1]? = wr.heap[R + 1]? ∧ (wr.setCell ⟨E, j, none⟩ v).heap[M]? = wr.heap[M]? := by
  have h1 := h.b1
  have h2 := h.b2
  have h3 := h.bw
  exact ⟨h.fs.grown (grown_set wr E j _) (t := 25) (by decide) (by decide) (fun k e => by cases e; exact ⟨_, _, h.ev⟩) (fun k e => by cases e; omega), Below.heap_setCell wr ⟨E, j, none⟩ _ R (by show R ≠ E; omega), Below.heap_setCell wr ⟨E, j, none⟩ _ (R + 1) (by show R + 1 ≠ E; omega), Below.heap_setCell wr ⟨E, j, none⟩ _ M (by show M ≠ E; omega)⟩
theorem RefIn.who {w0 wr : World} {R M E : Nat} {ds : List FD} {a : Option Addr} {n c : Nat} {ms : List Fld} {g : Nat → Int} {u s : ByteArray} (h : RefIn w0 wr R M E ds a n c ms g u s) (x : ByteArray) : RefIn w0 (wr.setCell ⟨E, 7, none⟩ (.string x)) R M E ds a n c ms g x s := by
  obtain ⟨a1, a2, a3, a4⟩ := h.cell 7 (.string x)
  exact ⟨a1, a2.trans h.ret, a3.trans h.non, a4.trans h.nums, blk_set h.ev, h.b1, h.b2, h.bw⟩
theorem RefIn.note {w0 wr : World} {R M E : Nat} {ds : List FD} {a : Option Addr} {n c : Nat} {ms : List Fld} {g : Nat → Int} {u s : ByteArray} (h : RefIn w0 wr R M E ds a n c ms g u s) (x : ByteArray) : RefIn w0 (wr.setCell ⟨E, 9, none⟩ (.string x)) R M E ds a n c ms g u x := by
  obtain ⟨a1, a2, a3, a4⟩ := h.cell 9 (.string x)
  exact ⟨a1, a2.trans h.ret, a3.trans h.non, a4.trans h.nums, blk_set h.ev, h.b1, h.b2, h.bw⟩

set_option maxRecDepth 8000 in
set_option maxHeartbeats 6400000 in
theorem rdec6_any (v : Int) (h1 : 1 ≤ v) (h5 : v ≤ 5) (a1 : Option Addr) (n1 c1 : Nat) (l : List UInt8) (w : World) (r : RowAt w a1 n1 c1 1 (l.map B)) :
    Calls Tryd.prog 27 #[.int .i64 v, .slice a1 n1 c1] w (GivesDE w (sdecF v l)) := by
  have hbm := below_next (below_made w (.cells (default : Ev).cells 25)) (below_made (w.alloc (.cells (default : Ev).cells 25)) (.cells (default : Ev).cells 25))
  have hR := below_blk' (below_made (w.alloc (.cells (default : Ev).cells 25)) (.cells (default : Ev).cells 25)) (heap_alloc_new w (.cells (default : Ev).cells 25))
  have hN := heap_alloc_new (w.alloc (.cells (default : Ev).cells 25)) (.cells (default : Ev).cells 25)
  have hsz : (w.alloc (.cells (default : Ev).cells 25)).heap.size = w.heap.size + 1 := by simp
  rw [hsz] at hN
  have r0 := r.below hbm
  have HW := Lib.hid (⟨_, rfl⟩ : ∃ w0, (w.alloc (.cells (default : Ev).cells 25)).alloc (.cells (default : Ev).cells 25) = w0)
  have hG := decodeF_right l
  have HS : Hid (sdecF v l = _) := Lib.hid (by unfold sdecF; rw [if_neg (by omega)])
  have hdec := fun wx hx => rdec5_any a1 n1 c1 l wx hx
  obtain ⟨y, hy⟩ : ∃ y, decodeF l = y := ⟨_, rfl⟩
  rw [hy] at hG hdec HS
  obtain ⟨ds, pl, e⟩ := y
  unfold GivesD at hdec
  simp only at hG HS hdec
  have HD := Lib.hid hdec
  have HH := Lib.hid (fun wx => rhas_any v wx h1 h5)
  have hmk := mk11
  clear hy hdec hsz
  by_cases he : e = 0
  · subst he
    rw [if_neg (by simp)] at HS
    go_enter Tryd.func27, Tryd.ntmps27
    go_upto_region 2 with (fail)
    rw [show (#[.int .i64 0, .int .i64 0, .int .i64 0, .int .i64 0, .int .i64 0, .int .i64 0, .int .i64 0, .string ⟨#[]⟩, .int .i64 0, .string ⟨#[]⟩] : Array Value) = (default : Ev).cells from rfl]
    obtain ⟨w0, hw0⟩ := HW.out
    rw [hw0] at hbm hR hN r0 ⊢
    clear hw0 HW r
    go_wp2_with ((with_reducible refine (HD.out _ r0).mono ?_); rintro x w1 ⟨a, n, c, ms, rfl, hF⟩)
    have hb1 := below_made w1 (.cells (numsA fun _ => 0) 3)
    have hb2 := below_made (w1.alloc (.cells (numsA fun _ => 0) 3)) (.cells (default : Ev).cells 25)
    have hM := below_blk' hb2 (heap_alloc_new w1 (.cells (numsA fun _ => 0) 3))
    have hE := heap_alloc_new (w1.alloc (.cells (numsA fun _ => 0) 3)) (.cells (default : Ev).cells 25)
    have hs1 : (w1.alloc (.cells (numsA fun _ => 0) 3)).heap.size = w1.heap.size + 1 := by simp
    rw [hs1] at hE
    have hF2 := (hF.below hb1).below hb2
    have hR2 := below_blk' hb2 (below_blk' hb1 (below_blk' hF.bel hR))
    have hN2 := below_blk' hb2 (below_blk' hb1 (below_blk' hF.bel hN))
    have hlN := lt_of_block hN
    have hsF := hF.bel.size
    have hlen := hF.len
    have hn31 : n ≤ 31 := by have := hG.len; omega
    have HLEN := Lib.hid hlen
    have hi : RefIn w0 _ w.heap.size w1.heap.size (w1.heap.size + 1) ds a n c ms (fun _ => 0) ByteArray.empty ByteArray.empty := ⟨hF2, hR2, hN2, hM, hE, by omega, by omega, hsF⟩
    rw [show (#[.int .i64 0, .int .i64 0, .int .i64 0, .int .i64 0, .int .i64 0, .int .i64 0, .int .i64 0, .string ⟨#[]⟩, .int .i64 0, .string ⟨#[]⟩] : Array Value) = (default : Ev).cells from rfl]
    obtain ⟨wm, hwm⟩ : ∃ wm, (w1.alloc (.cells (numsA fun _ => 0) 3)).alloc (.cells (default : Ev).cells 25) = wm := ⟨_, rfl⟩
    rw [hwm] at hi ⊢
    obtain ⟨M, hMq⟩ : ∃ M, w1.heap.size = M := ⟨_, rfl⟩
    obtain ⟨E, hEq⟩ : ∃ E, M + 1 = E := ⟨_, rfl⟩
    rw [hMq, hEq] at hi
    rw [hMq, hEq]
    clear hb1 hb2 hM hE hs1 hF2 hR2 hN2 hlN hsF hlen hwm hMq hEq hF hR hN r0 HD
    obtain ⟨hv, hvq⟩ : ∃ hv, hasV v = hv := ⟨_, rfl⟩
    have HBD : Hid (5 ≤ hv ∧ hv ≤ 10) := Lib.hid (by rw [← hvq]; exact ⟨(hasV_bd h1).1, (hasV_bd h1).2.1⟩)
    have HHV := Lib.hid hvq
    rw [hvq] at HH
    clear hvq
    go_loopw [10, 37] (fun av iv wr => ∃ (j : Nat) (al : Bool) (g : Nat → Int) (u s : ByteArray), iv = .int .i64 (j : Int) ∧ av = .bool al ∧ j ≤ n ∧ RefIn w0 wr w.heap.size M E ds a n c ms g u s ∧
      Hid ((∀ t, t ≤ 10 → g t = nAt v (ds.take j) t) ∧ u = whoAt v (ds.take j) ∧ s = noteAt v (ds.take j) ∧ misT (ds.take j) (seqV v) = false ∧ al = decide (0 < (left (ds.take j) (seqV v)).length))) (fun _ iv _ => n - (intOf iv).toNat)
    case atStart =>
      refine ⟨0, false, _, _, _, rfl, rfl, Nat.zero_le _, hi, Lib.hid ⟨fun t _ => ?_, ?_, ?_, rfl, rfl⟩⟩
      · rw [List.take_zero, nAt_nil]
      · unfold whoAt look; simp; intro _; rfl
      · unfold noteAt look; simp; intro _; rfl
    case round =>
      clear hi
      obtain ⟨j, al, g, u, s, rfl, rfl, hj, hi, HREL⟩ := hrel
      by_cases hlt : j < n
      · obtain ⟨b', off, f, rfl, hfj, g0, g1, g2, g3⟩ := fld_at (own_rowAt hi.fs.own) j hlt
        obtain ⟨d, hd, hfd⟩ := hi.fs.flds.get hfj
        have hft := hi.fs.tags f (List.mem_of_getElem? hfj)
        have hnew := rise_new hG.rise hd
        have hdr := hG.right d (List.mem_of_getElem? hd)
        have htk : ds.take (j + 1) = ds.take j ++ [d] := by rw [List.take_add_one, hd]; rfl
        obtain ⟨T, X, U, D⟩ := d
        obtain ⟨ft, fx, fnum, fa, fn, fc⟩ := f
        have q1 := hfd.tag
        have q2 := hfd.text.symm
        have q3 := hfd.num
        dsimp only at q1 q2 q3 g0 g1 g2 g3
        subst q1 q2 q3
        have HNEW := Lib.hid hnew
        have HTK := Lib.hid htk
        have hT1 : 1 ≤ T := hdr.1
        have hT31 : T ≤ 31 := hdr.2.1
        have HDR := Lib.hid hdr
        have hbf := below_made wr (.cells #[.int .i64 (T : Int), .bool X, .int .u64 (U : Int), .slice fa fn fc] 81)
        have hX := heap_alloc_new wr (.cells #[.int .i64 (T : Int), .bool X, .int .u64 (U : Int), .slice fa fn fc] 81)
        have hi1 := hi.below hbf
        have hfl1 := hfd.below hbf
        have hft1 := hft.below hbf
        have HMF : Hid (M ≠ wr.heap.size) := Lib.hid (by have := lt_of_block hi.nums; omega)
        have HW := Lib.hid (⟨_, rfl⟩ : ∃ wf, wr.alloc (.cells #[.int .i64 (T : Int), .bool X, .int .u64 (U : Int), .slice fa fn fc] 81) = wf)
        clear hfj hd hnew htk hdr hfd hft hbf hi
        go_upto_region 14 with (fail)
        obtain ⟨wf, hwf⟩ := HW.out
        rw [hwf] at hX hi1 hfl1 hft1 ⊢
        clear hwf HW g0 g1 g2 g3
        have k0 : wf.cell? ⟨wr.heap.size, 0, none⟩ = some (.int .i64 (T : Int)) := cell_blk hX rfl
        by_cases hA : hv < (T : Int)
        · have HL := Lib.hid (nAt_alien h1 h5 HNEW.out (show hasV v < ((⟨T, X, U, D⟩ : FD).tag : Int) by rw [HHV.out]; exact hA))
          have hlf : inT (seqV v) T = false := by rw [inT_seq h1 h5 hT1, HHV.out]; rw [decide_eq_false_iff_not]; omega
          have HLF := Lib.hid hlf
          have HMS := Lib.hid (mis_seq h1 h5 hT1 X)
          clear hlf
          go_region_held3 (fun w' => w'.cell? ⟨wr.heap.size, 0, none⟩ = some (.int .i64 (T : Int)))
            (first
              | go_keep
              | exact (cell_blk hX5 rfl))
            (first
              | (go_at_call 40; refine (HH.out _).mono ?_; rintro x w5 ⟨rfl, hb5⟩; have hX5 := below_blk' hb5 hX))
          have hb6 : Below wf.heap.size wf w5 := ⟨hb5.os, hb5.tape, hb5.output, hb5.size, hb5.block⟩
          have h5 := hi1.below hb6
          have k0 : w5.cell? ⟨wr.heap.size, 0, none⟩ = some (.int .i64 (T : Int)) := cell_blk hX5 rfl
          have k1 : w5.cell? ⟨wr.heap.size, 1, none⟩ = some (.bool X) := cell_blk hX5 rfl
          have k2 : w5.cell? ⟨wr.heap.size, 2, none⟩ = some (.int .u64 (U : Int)) := cell_blk hX5 rfl
          have k3 : w5.cell? ⟨wr.heap.size, 3, none⟩ = some (.slice fa fn fc) := cell_blk hX5 rfl
          clear hX5 hb5 hb6 hi1 hX k0 k1 k2 k3
          go_wp2_with fail
          go_roundw
          case rel =>
            refine ⟨j + 1, true, g, u, s, by go_num, rfl, by omega, h5, Lib.hid ?_⟩
            obtain ⟨q1, q2, q3, q4, q5⟩ := HREL.out
            obtain ⟨l1, l2, l3⟩ := HL.out
            rw [HTK.out, mis_snoc, left_snoc, l2, l3, q4, HMS.out, HHV.out, HLF.out]
            refine ⟨fun t ht => by rw [l1 t ht]; exact q1 t ht, q2, q3, ?_, ?_⟩
            · rw [decide_eq_false (by omega)]; rfl
            · symm; rw [decide_eq_true_iff]; simp
          case measure => simp [intOf]; omega
        have hgt : ¬ hv < (T : Int) := hA
        have hT10 : T ≤ 10 := by have := HBD.out; omega
        have hlf : inT (seqV v) T = true := by rw [inT_seq h1 h5 hT1, HHV.out]; rw [decide_eq_true_iff]; omega
        have HLF := Lib.hid hlf
        have HMS := Lib.hid (mis_seq h1 h5 hT1 X)
        clear hlf
        by_cases h8 : T = 8
        · have e8 : ((T : Int) == 8) = true := by rw [beq_iff_eq]; omega
          have HT8 := Lib.hid h8
          clear h8
          cases X with
          | false =>
            have HQ : Hid (sdecF v l = (default, 33)) := Lib.hid (by
              have hm : misT (ds.take (j + 1)) (seqV v) = true := by
                rw [HTK.out, mis_snoc, HMS.out, HHV.out, decide_eq_true (by omega)]; rw [HT8.out]; simp
              have he : errF (left ds (seqV v)) (badT ds (seqV v)) = 33 := by unfold errF badT; rw [mis_more hm]; rfl
              rw [HS.out, he]; rfl)
            go_region_held3 (fun w' => w'.cell? ⟨wr.heap.size, 0, none⟩ = some (.int .i64 (T : Int)))
              (first
                | go_keep
                | exact (cell_blk hX5 rfl))
              (first
                | (go_at_call 40; refine (HH.out _).mono ?_; rintro x w5 ⟨rfl, hb5⟩; have hX5 := below_blk' hb5 hX))
            have hb6 : Below wf.heap.size wf w5 := ⟨hb5.os, hb5.tape, hb5.output, hb5.size, hb5.block⟩
            have h5 := hi1.below hb6
            have k0 : w5.cell? ⟨wr.heap.size, 0, none⟩ = some (.int .i64 (T : Int)) := cell_blk hX5 rfl
            have k1 : w5.cell? ⟨wr.heap.size, 1, none⟩ = some (.bool false) := cell_blk hX5 rfl
            have k2 : w5.cell? ⟨wr.heap.size, 2, none⟩ = some (.int .u64 (U : Int)) := cell_blk hX5 rfl
            have k3 : w5.cell? ⟨wr.heap.size, 3, none⟩ = some (.slice fa fn fc) := cell_blk hX5 rfl
            have hR5 := h5.ret
            have hN5 := h5.non
            have hB := below_next hbm h5.fs.bel
            clear hX5 hb5 hb6 hi1 hX
            go_wp2_with (first
              | (with_reducible refine wpList_load_row rfl 25 (.tmp 6) rfl (w.heap.size + 1) rfl _ (default : Ev).cells (0, 0) _ hN5 Tryd.underlying25 rfl (by with_unfolding_all exact info_ev) ?_)
              | (with_reducible refine wpList_store_row rfl 25 (.tmp 4) (.tmp 60) rfl w.heap.size (default : Ev).cells rfl rfl _ _ hR5 (by with_unfolding_all exact info_ev) (by with_unfolding_all exact rfl) (by with_unfolding_all exact rfl) ?_))
            refine bodyPost_ret (v := .tuple #[.agg (default : Ev).cells, .int .i64 33]) (ret_evN rfl rfl (setRow_heap _ w.heap.size _ (default : Ev).cells _ _ hR5) rfl rfl) rfl ?_
            rw [HQ.out]
            exact ⟨rfl, below_row hB (Nat.le_refl _) _⟩
          | true =>
            have HL := Lib.hid (nAt_who h1 h5 HNEW.out HT8.out rfl (show ¬ hasV v < ((⟨T, true, U, D⟩ : FD).tag : Int) by rw [HHV.out]; exact hgt))
            go_region_held3 (fun w' => w'.cell? ⟨wr.heap.size, 0, none⟩ = some (.int .i64 (T : Int)))
              (first
                | go_keep
                | exact (cell_blk hX5 rfl))
              (first
                | (go_at_call 40; refine (HH.out _).mono ?_; rintro x w5 ⟨rfl, hb5⟩; have hX5 := below_blk' hb5 hX))
            have hb6 : Below wf.heap.size wf w5 := ⟨hb5.os, hb5.tape, hb5.output, hb5.size, hb5.block⟩
            have h5 := hi1.below hb6
            have k0 : w5.cell? ⟨wr.heap.size, 0, none⟩ = some (.int .i64 (T : Int)) := cell_blk hX5 rfl
            have k1 : w5.cell? ⟨wr.heap.size, 1, none⟩ = some (.bool true) := cell_blk hX5 rfl
            have k2 : w5.cell? ⟨wr.heap.size, 2, none⟩ = some (.int .u64 (U : Int)) := cell_blk hX5 rfl
            have k3 : w5.cell? ⟨wr.heap.size, 3, none⟩ = some (.slice fa fn fc) := cell_blk hX5 rfl
            have hcv := str_of (hfl1.row.below hb6)
            obtain ⟨S, hS⟩ : ∃ S, strD D = S := ⟨_, rfl⟩
            have HSD := Lib.hid hS
            simp only [hS] at hcv
            clear hS
            have ce : w5.cell? ⟨E, 7, none⟩ = some (.string u) := cell_blk h5.ev rfl
            have fe : w5.frozen? ⟨E, 7, none⟩ = false := free_blk h5.ev
            have h6 := h5.who S
            clear hX5 hb5 hb6 hi1 hX h5 hfl1 hft1
            go_wp2_with fail
            go_roundw
            case rel =>
              refine ⟨j + 1, al, _, _, _, by go_num, rfl, by omega, h6, Lib.hid ?_⟩
              obtain ⟨q1, q2, q3, q4, q5⟩ := HREL.out
              obtain ⟨l1, l2, l3⟩ := HL.out
              rw [HTK.out, mis_snoc, left_snoc, l2, l3, q4, HMS.out, HHV.out, HLF.out]
              refine ⟨fun t ht => by rw [l1 t ht]; exact q1 t ht, HSD.out.symm, q3, ?_, by simpa using q5⟩
              rw [HT8.out]; simp
            case measure => simp [intOf]; omega
        have e8 : ((T : Int) == 8) = false := by rw [beq_eq_false_iff_ne]; omega
        by_cases h10 : T = 10
        · have e10 : ((T : Int) == 10) = true := by rw [beq_iff_eq]; omega
          have HT8 := Lib.hid h10
          clear h10 h8
          cases X with
          | false =>
            have HQ : Hid (sdecF v l = (default, 33)) := Lib.hid (by
              have hm : misT (ds.take (j + 1)) (seqV v) = true := by
                rw [HTK.out, mis_snoc, HMS.out, HHV.out, decide_eq_true (by omega)]; rw [HT8.out]; simp
              have he : errF (left ds (seqV v)) (badT ds (seqV v)) = 33 := by unfold errF badT; rw [mis_more hm]; rfl
              rw [HS.out, he]; rfl)
            go_region_held3 (fun w' => w'.cell? ⟨wr.heap.size, 0, none⟩ = some (.int .i64 (T : Int)))
              (first
                | go_keep
                | exact (cell_blk hX5 rfl))
              (first
                | (go_at_call 40; refine (HH.out _).mono ?_; rintro x w5 ⟨rfl, hb5⟩; have hX5 := below_blk' hb5 hX))
            have hb6 : Below wf.heap.size wf w5 := ⟨hb5.os, hb5.tape, hb5.output, hb5.size, hb5.block⟩
            have h5 := hi1.below hb6
            have k0 : w5.cell? ⟨wr.heap.size, 0, none⟩ = some (.int .i64 (T : Int)) := cell_blk hX5 rfl
            have k1 : w5.cell? ⟨wr.heap.size, 1, none⟩ = some (.bool false) := cell_blk hX5 rfl
            have k2 : w5.cell? ⟨wr.heap.size, 2, none⟩ = some (.int .u64 (U : Int)) := cell_blk hX5 rfl
            have k3 : w5.cell? ⟨wr.heap.size, 3, none⟩ = some (.slice fa fn fc) := cell_blk hX5 rfl
            have hR5 := h5.ret
            have hN5 := h5.non
            have hB := below_next hbm h5.fs.bel
            clear hX5 hb5 hb6 hi1 hX
            go_wp2_with (first
              | (with_reducible refine wpList_load_row rfl 25 (.tmp 6) rfl (w.heap.size + 1) rfl _ (default : Ev).cells (0, 0) _ hN5 Tryd.underlying25 rfl (by with_unfolding_all exact info_ev) ?_)
              | (with_reducible refine wpList_store_row rfl 25 (.tmp 4) (.tmp 60) rfl w.heap.size (default : Ev).cells rfl rfl _ _ hR5 (by with_unfolding_all exact info_ev) (by with_unfolding_all exact rfl) (by with_unfolding_all exact rfl) ?_))
            refine bodyPost_ret (v := .tuple #[.agg (default : Ev).cells, .int .i64 33]) (ret_evN rfl rfl (setRow_heap _ w.heap.size _ (default : Ev).cells _ _ hR5) rfl rfl) rfl ?_
            rw [HQ.out]
            exact ⟨rfl, below_row hB (Nat.le_refl _) _⟩
          | true =>
            have HL := Lib.hid (nAt_note h1 h5 HNEW.out HT8.out rfl (show ¬ hasV v < ((⟨T, true, U, D⟩ : FD).tag : Int) by rw [HHV.out]; exact hgt))
            go_region_held3 (fun w' => w'.cell? ⟨wr.heap.size, 0, none⟩ = some (.int .i64 (T : Int)))
              (first
                | go_keep
                | exact (cell_blk hX5 rfl))
              (first
                | (go_at_call 40; refine (HH.out _).mono ?_; rintro x w5 ⟨rfl, hb5⟩; have hX5 := below_blk' hb5 hX))
            have hb6 : Below wf.heap.size wf w5 := ⟨hb5.os, hb5.tape, hb5.output, hb5.size, hb5.block⟩
            have h5 := hi1.below hb6
            have k0 : w5.cell? ⟨wr.heap.size, 0, none⟩ = some (.int .i64 (T : Int)) := cell_blk hX5 rfl
            have k1 : w5.cell? ⟨wr.heap.size, 1, none⟩ = some (.bool true) := cell_blk hX5 rfl
            have k2 : w5.cell? ⟨wr.heap.size, 2, none⟩ = some (.int .u64 (U : Int)) := cell_blk hX5 rfl
            have k3 : w5.cell? ⟨wr.heap.size, 3, none⟩ = some (.slice fa fn fc) := cell_blk hX5 rfl
            have hcv := str_of (hfl1.row.below hb6)
            obtain ⟨S, hS⟩ : ∃ S, strD D = S := ⟨_, rfl⟩
            have HSD := Lib.hid hS
            simp only [hS] at hcv
            clear hS
            have ce : w5.cell? ⟨E, 9, none⟩ = some (.string s) := cell_blk h5.ev rfl
            have fe : w5.frozen? ⟨E, 9, none⟩ = false := free_blk h5.ev
            have h6 := h5.note S
            clear hX5 hb5 hb6 hi1 hX h5 hfl1 hft1
            go_wp2_with fail
            go_roundw
            case rel =>
              refine ⟨j + 1, al, _, _, _, by go_num, rfl, by omega, h6, Lib.hid ?_⟩
              obtain ⟨q1, q2, q3, q4, q5⟩ := HREL.out
              obtain ⟨l1, l2, l3⟩ := HL.out
              rw [HTK.out, mis_snoc, left_snoc, l2, l3, q4, HMS.out, HHV.out, HLF.out]
              refine ⟨fun t ht => by rw [l1 t ht]; exact q1 t ht, q2, HSD.out.symm, ?_, by simpa using q5⟩
              rw [HT8.out]; simp
            case measure => simp [intOf]; omega
        have e10 : ((T : Int) == 10) = false := by rw [beq_eq_false_iff_ne]; omega
        have H8 := Lib.hid h8
        have H10 := Lib.hid h10
        clear h8 h10
        cases X with
        | true =>
          have HQ : Hid (sdecF v l = (default, 33)) := Lib.hid (by
            have hm : misT (ds.take (j + 1)) (seqV v) = true := by
              rw [HTK.out, mis_snoc, HMS.out, HHV.out, decide_eq_true (by omega)]; simp [H8.out, H10.out]
            have he : errF (left ds (seqV v)) (badT ds (seqV v)) = 33 := by unfold errF badT; rw [mis_more hm]; rfl
            rw [HS.out, he]; rfl)
          go_region_held3 (fun w' => w'.cell? ⟨wr.heap.size, 0, none⟩ = some (.int .i64 (T : Int)))
            (first
              | go_keep
              | exact (cell_blk hX5 rfl))
            (first
              | (go_at_call 40; refine (HH.out _).mono ?_; rintro x w5 ⟨rfl, hb5⟩; have hX5 := below_blk' hb5 hX))
          have hb6 : Below wf.heap.size wf w5 := ⟨hb5.os, hb5.tape, hb5.output, hb5.size, hb5.block⟩
          have h5 := hi1.below hb6
          have k0 : w5.cell? ⟨wr.heap.size, 0, none⟩ = some (.int .i64 (T : Int)) := cell_blk hX5 rfl
          have k1 : w5.cell? ⟨wr.heap.size, 1, none⟩ = some (.bool true) := cell_blk hX5 rfl
          have k2 : w5.cell? ⟨wr.heap.size, 2, none⟩ = some (.int .u64 (U : Int)) := cell_blk hX5 rfl
          have k3 : w5.cell? ⟨wr.heap.size, 3, none⟩ = some (.slice fa fn fc) := cell_blk hX5 rfl
          have hR5 := h5.ret
          have hN5 := h5.non
          have hB := below_next hbm h5.fs.bel
          clear hX5 hb5 hb6 hi1 hX
          go_wp2_with (first
            | (with_reducible refine wpList_load_row rfl 25 (.tmp 6) rfl (w.heap.size + 1) rfl _ (default : Ev).cells (0, 0) _ hN5 Tryd.underlying25 rfl (by with_unfolding_all exact info_ev) ?_)
            | (with_reducible refine wpList_store_row rfl 25 (.tmp 4) (.tmp 60) rfl w.heap.size (default : Ev).cells rfl rfl _ _ hR5 (by with_unfolding_all exact info_ev) (by with_unfolding_all exact rfl) (by with_unfolding_all exact rfl) ?_))
          refine bodyPost_ret (v := .tuple #[.agg (default : Ev).cells, .int .i64 33]) (ret_evN rfl rfl (setRow_heap _ w.heap.size _ (default : Ev).cells _ _ hR5) rfl rfl) rfl ?_
          rw [HQ.out]
          exact ⟨rfl, below_row hB (Nat.le_refl _) _⟩
        | false =>
          have HL := Lib.hid (nAt_num (v := v) HNEW.out (show (⟨T, false, U, D⟩ : FD).tag ≠ 8 from H8.out) (show (⟨T, false, U, D⟩ : FD).tag ≠ 10 from H10.out) hT1 rfl (show ¬ hasV v < ((⟨T, false, U, D⟩ : FD).tag : Int) by rw [HHV.out]; exact hgt))
          by_cases h4 : T = 4 ∧ v < 3
          · obtain ⟨h4, hv3⟩ := h4
            have e4 : ((T : Int) == 4) = true := by rw [beq_iff_eq]; omega
            have HT4 := Lib.hid h4
            clear h4
            go_region_held3 (fun w' => w'.cell? ⟨wr.heap.size, 0, none⟩ = some (.int .i64 (T : Int)))
              (first
                | go_keep
                | exact (cell_blk hX5 rfl))
              (first
                | (go_at_call 40; refine (HH.out _).mono ?_; rintro x w5 ⟨rfl, hb5⟩; have hX5 := below_blk' hb5 hX))
            have hb6 : Below wf.heap.size wf w5 := ⟨hb5.os, hb5.tape, hb5.output, hb5.size, hb5.block⟩
            have h5 := hi1.below hb6
            have k0 : w5.cell? ⟨wr.heap.size, 0, none⟩ = some (.int .i64 (T : Int)) := cell_blk hX5 rfl
            have k1 : w5.cell? ⟨wr.heap.size, 1, none⟩ = some (.bool false) := cell_blk hX5 rfl
            have k2 : w5.cell? ⟨wr.heap.size, 2, none⟩ = some (.int .u64 (U : Int)) := cell_blk hX5 rfl
            have k3 : w5.cell? ⟨wr.heap.size, 3, none⟩ = some (.slice fa fn fc) := cell_blk hX5 rfl
            have ce : w5.cell? ⟨M, 4, none⟩ = some (.int .i64 (g 4)) := cell_blk h5.nums rfl
            have fe : w5.frozen? ⟨M, 4, none⟩ = false := free_blk h5.nums
            have h6 := h5.num 4 (by omega) (zagN (U : Int))
            clear hX5 hb5 hb6 hi1 hX h5
            go_wp2_with ((with_reducible refine (rzag_fld HDR.out _).mono ?_); rintro x w' ⟨rfl, rfl⟩)
            go_roundw
            case rel =>
              refine ⟨j + 1, al, _, _, _, by go_num, rfl, by omega, h6, Lib.hid ?_⟩
              obtain ⟨q1, q2, q3, q4, q5⟩ := HREL.out
              obtain ⟨l1, l2, l3⟩ := HL.out
              rw [HTK.out, mis_snoc, left_snoc, l2, l3, q4, HMS.out, HHV.out, HLF.out]
              refine ⟨fun t ht => ?_, q2, q3, ?_, by simpa using q5⟩
              · rw [l1 t ht]; show (if t = 4 then _ else g t) = if t = T then (if T = 4 ∧ v < 3 then _ else _) else _; rw [if_pos (show T = 4 ∧ v < 3 from ⟨HT4.out, hv3⟩), HT4.out, q1 t ht]
              · rw [HT4.out]; simp
            case measure => simp [intOf]; omega
          by_cases h4b : T = 4
          · have hv3 : ¬ v < 3 := fun q => h4 ⟨h4b, q⟩
            have e4 : ((T : Int) == 4) = true := by rw [beq_iff_eq]; omega
            have H4 := Lib.hid h4
            clear h4 h4b
            go_region_held3 (fun w' => w'.cell? ⟨wr.heap.size, 0, none⟩ = some (.int .i64 (T : Int)))
              (first
                | go_keep
                | exact (cell_blk hX5 rfl))
              (first
                | (go_at_call 40; refine (HH.out _).mono ?_; rintro x w5 ⟨rfl, hb5⟩; have hX5 := below_blk' hb5 hX))
            have hb6 : Below wf.heap.size wf w5 := ⟨hb5.os, hb5.tape, hb5.output, hb5.size, hb5.block⟩
            have h5 := hi1.below hb6
            have k0 : w5.cell? ⟨wr.heap.size, 0, none⟩ = some (.int .i64 (T : Int)) := cell_blk hX5 rfl
            have k1 : w5.cell? ⟨wr.heap.size, 1, none⟩ = some (.bool false) := cell_blk hX5 rfl
            have k2 : w5.cell? ⟨wr.heap.size, 2, none⟩ = some (.int .u64 (U : Int)) := cell_blk hX5 rfl
            have k3 : w5.cell? ⟨wr.heap.size, 3, none⟩ = some (.slice fa fn fc) := cell_blk hX5 rfl
            have ce : w5.cell? ⟨M, T, none⟩ = some (.int .i64 (g T)) := cell_blk h5.nums (numsA_at g T hT10)
            have fe : w5.frozen? ⟨M, T, none⟩ = false := free_blk h5.nums
            have h6 := h5.num T hT10 (clampI U)
            obtain ⟨cu, hcu⟩ : ∃ cu, clampI U = cu := ⟨_, rfl⟩
            rw [hcu] at h6
            have HCU := Lib.hid hcu
            have hT11 : (T : Int) < 11 := by omega
            have hT0 : 0 ≤ (T : Int) := Int.natCast_nonneg _
            clear hX5 hb5 hb6 hi1 hX h5 hcu
            go_wp2_with fail
            go_region_held3 (fun w' => w'.cell? ⟨wr.heap.size, 0, none⟩ = some (.int .i64 (T : Int)) ∧ w'.cell? ⟨wr.heap.size, 2, none⟩ = some (.int .u64 (U : Int)))
              (first | exact ⟨k0, k2⟩ | exact ⟨keepFar HMF.out k0, keepFar HMF.out k2⟩ | exact ⟨(World.cell?_setCell_far _ _ _ _ HMF.out).trans k0, (World.cell?_setCell_far _ _ _ _ HMF.out).trans k2⟩)
              (first | (go_at_call 28; refine (rclamp_any U HDR.out.2.2.1 _).mono ?_; rintro x w' ⟨rfl, rfl⟩; rw [HCU.out]))
            go_wp2_with fail
            go_roundw
            case rel =>
              refine ⟨j + 1, al, _, _, _, by go_num, rfl, by omega, h6.below ((Still.one _ 1).below _), Lib.hid ?_⟩
              obtain ⟨q1, q2, q3, q4, q5⟩ := HREL.out
              obtain ⟨l1, l2, l3⟩ := HL.out
              rw [HTK.out, mis_snoc, left_snoc, l2, l3, q4, HMS.out, HHV.out, HLF.out]
              refine ⟨fun t ht => ?_, q2, q3, ?_, by simpa using q5⟩
              · rw [l1 t ht]; show (if t = T then _ else _) = if t = T then _ else _; rw [if_neg (show ¬ (T = 4 ∧ v < 3) from H4.out), HCU.out]; split
                · rfl
                · exact q1 t ht
              · simp [H8.out, H10.out]
            case measure => simp [intOf]; omega
          · have e4 : ((T : Int) == 4) = false := by rw [beq_eq_false_iff_ne]; omega
            have H4 := Lib.hid h4
            clear h4 h4b
            go_region_held3 (fun w' => w'.cell? ⟨wr.heap.size, 0, none⟩ = some (.int .i64 (T : Int)))
              (first
                | go_keep
                | exact (cell_blk hX5 rfl))
              (first
                | (go_at_call 40; refine (HH.out _).mono ?_; rintro x w5 ⟨rfl, hb5⟩; have hX5 := below_blk' hb5 hX))
            have hb6 : Below wf.heap.size wf w5 := ⟨hb5.os, hb5.tape, hb5.output, hb5.size, hb5.block⟩
            have h5 := hi1.below hb6
            have k0 : w5.cell? ⟨wr.heap.size, 0, none⟩ = some (.int .i64 (T : Int)) := cell_blk hX5 rfl
            have k1 : w5.cell? ⟨wr.heap.size, 1, none⟩ = some (.bool false) := cell_blk hX5 rfl
            have k2 : w5.cell? ⟨wr.heap.size, 2, none⟩ = some (.int .u64 (U : Int)) := cell_blk hX5 rfl
            have k3 : w5.cell? ⟨wr.heap.size, 3, none⟩ = some (.slice fa fn fc) := cell_blk hX5 rfl
            have ce : w5.cell? ⟨M, T, none⟩ = some (.int .i64 (g T)) := cell_blk h5.nums (numsA_at g T hT10)
            have fe : w5.frozen? ⟨M, T, none⟩ = false := free_blk h5.nums
            have h6 := h5.num T hT10 (clampI U)
            obtain ⟨cu, hcu⟩ : ∃ cu, clampI U = cu := ⟨_, rfl⟩
            rw [hcu] at h6
            have HCU := Lib.hid hcu
            have hT11 : (T : Int) < 11 := by omega
            have hT0 : 0 ≤ (T : Int) := Int.natCast_nonneg _
            clear hX5 hb5 hb6 hi1 hX h5 hcu
            go_wp2_with fail
            go_region_held3 (fun w' => w'.cell? ⟨wr.heap.size, 0, none⟩ = some (.int .i64 (T : Int)) ∧ w'.cell? ⟨wr.heap.size, 2, none⟩ = some (.int .u64 (U : Int)))
              (first | exact ⟨k0, k2⟩ | exact ⟨keepFar HMF.out k0, keepFar HMF.out k2⟩ | exact ⟨(World.cell?_setCell_far _ _ _ _ HMF.out).trans k0, (World.cell?_setCell_far _ _ _ _ HMF.out).trans k2⟩)
              (first | (go_at_call 28; refine (rclamp_any U HDR.out.2.2.1 _).mono ?_; rintro x w' ⟨rfl, rfl⟩; rw [HCU.out]))
            go_wp2_with fail
            go_roundw
            case rel =>
              refine ⟨j + 1, al, _, _, _, by go_num, rfl, by omega, h6.below ((Still.one _ 1).below _), Lib.hid ?_⟩
              obtain ⟨q1, q2, q3, q4, q5⟩ := HREL.out
              obtain ⟨l1, l2, l3⟩ := HL.out
              rw [HTK.out, mis_snoc, left_snoc, l2, l3, q4, HMS.out, HHV.out, HLF.out]
              refine ⟨fun t ht => ?_, q2, q3, ?_, by simpa using q5⟩
              · rw [l1 t ht]; show (if t = T then _ else _) = if t = T then _ else _; rw [if_neg (show ¬ (T = 4 ∧ v < 3) from H4.out), HCU.out]; split
                · rfl
                · exact q1 t ht
              · simp [H8.out, H10.out]
            case measure => simp [intOf]; omega
      · obtain rfl : j = n := by omega
        have hall : ds.take j = ds := List.take_of_length_le (by have := HLEN.out; omega)
        have hrel := HREL.out
        rw [hall] at hrel
        obtain ⟨q1, q2, q3, q4, q5⟩ := hrel
        have hbad : badT ds (seqV v) = 0 := by unfold badT; rw [q4]; rfl
        rw [hbad] at HS
        have hB := below_next hbm hi.fs.bel
        have HALL := Lib.hid hall
        clear hall HREL hbad q4
        cases al with
        | true =>
          have hl : 0 < (left ds (seqV v)).length := by simpa using q5.symm
          have he : errF (left ds (seqV v)) 0 = 20 := by unfold errF; rw [if_neg (by simp), if_pos hl]
          rw [he, if_pos (by decide)] at HS
          have hRr := hi.ret
          have hNr := hi.non
          clear hl he q1 q2 q3 q5 hi
          go_wp2_with (first
            | (with_reducible refine wpList_load_row rfl 25 (.tmp 6) rfl (w.heap.size + 1) rfl _ (default : Ev).cells (0, 0) _ hNr Tryd.underlying25 rfl (by with_unfolding_all exact info_ev) ?_)
            | (with_reducible refine wpList_store_row rfl 25 (.tmp 4) (.tmp 96) rfl w.heap.size (default : Ev).cells rfl rfl _ _ hRr (by with_unfolding_all exact info_ev) (by with_unfolding_all exact rfl) (by with_unfolding_all exact rfl) ?_))
          refine bodyPost_ret (v := .tuple #[.agg (default : Ev).cells, .int .i64 20]) (ret_evN rfl rfl (setRow_heap _ w.heap.size _ (default : Ev).cells _ _ hRr) rfl rfl) rfl ?_
          rw [HS.out]
          exact ⟨rfl, below_row hB (Nat.le_refl _) _⟩
        | false =>
          have hl : ¬ 0 < (left ds (seqV v)).length := by simpa using q5.symm
          have he : errF (left ds (seqV v)) 0 = 0 := by unfold errF; rw [if_neg (by simp), if_neg hl]
          rw [he, if_neg (by simp)] at HS
          have hev : evOf v ds = ⟨g 1, g 2, g 3, g 4, g 5, g 6, g 7, u, g 9, s⟩ := by
            rw [evOf_nAt h1 h5, q1 1 (by omega), q1 2 (by omega), q1 3 (by omega), q1 4 (by omega), q1 5 (by omega), q1 6 (by omega), q1 7 (by omega), q1 9 (by omega), q2, q3]
          rw [hev] at HS
          have hck := fun wx => rchk_any v ⟨g 1, g 2, g 3, g 4, g 5, g 6, g 7, u, g 9, s⟩ wx
          obtain ⟨ck, hckq⟩ : ∃ ck, chk v ⟨g 1, g 2, g 3, g 4, g 5, g 6, g 7, u, g 9, s⟩ = ck := ⟨_, rfl⟩
          unfold GivesC Ev.val Ev.cells at hck
          rw [hckq] at hck HS
          have HCK := Lib.hid hck
          clear hl he q1 q2 q3 q5 hev hck hckq
          have n1 : wr.cell? ⟨M, 1, none⟩ = some (.int .i64 (g 1)) := cell_blk hi.nums rfl
          have e0 : wr.cell? ⟨E, 0, none⟩ = some (.int .i64 0) := cell_blk hi.ev rfl
          have f0 : wr.frozen? ⟨E, 0, none⟩ = false := free_blk hi.ev
          have n2 : wr.cell? ⟨M, 2, none⟩ = some (.int .i64 (g 2)) := cell_blk hi.nums rfl
          have e1 : wr.cell? ⟨E, 1, none⟩ = some (.int .i64 0) := cell_blk hi.ev rfl
          have f1 : wr.frozen? ⟨E, 1, none⟩ = false := free_blk hi.ev
          have n3 : wr.cell? ⟨M, 3, none⟩ = some (.int .i64 (g 3)) := cell_blk hi.nums rfl
          have e2 : wr.cell? ⟨E, 2, none⟩ = some (.int .i64 0) := cell_blk hi.ev rfl
          have f2 : wr.frozen? ⟨E, 2, none⟩ = false := free_blk hi.ev
          have n4 : wr.cell? ⟨M, 4, none⟩ = some (.int .i64 (g 4)) := cell_blk hi.nums rfl
          have e3 : wr.cell? ⟨E, 3, none⟩ = some (.int .i64 0) := cell_blk hi.ev rfl
          have f3 : wr.frozen? ⟨E, 3, none⟩ = false := free_blk hi.ev
          have n5 : wr.cell? ⟨M, 5, none⟩ = some (.int .i64 (g 5)) := cell_blk hi.nums rfl
          have e4 : wr.cell? ⟨E, 4, none⟩ = some (.int .i64 0) := cell_blk hi.ev rfl
          have f4 : wr.frozen? ⟨E, 4, none⟩ = false := free_blk hi.ev
          have n6 : wr.cell? ⟨M, 6, none⟩ = some (.int .i64 (g 6)) := cell_blk hi.nums rfl
          have e5 : wr.cell? ⟨E, 5, none⟩ = some (.int .i64 0) := cell_blk hi.ev rfl
          have f5 : wr.frozen? ⟨E, 5, none⟩ = false := free_blk hi.ev
          have n7 : wr.cell? ⟨M, 7, none⟩ = some (.int .i64 (g 7)) := cell_blk hi.nums rfl
          have e6 : wr.cell? ⟨E, 6, none⟩ = some (.int .i64 0) := cell_blk hi.ev rfl
          have f6 : wr.frozen? ⟨E, 6, none⟩ = false := free_blk hi.ev
          have n9 : wr.cell? ⟨M, 9, none⟩ = some (.int .i64 (g 9)) := cell_blk hi.nums rfl
          have e8 : wr.cell? ⟨E, 8, none⟩ = some (.int .i64 0) := cell_blk hi.ev rfl
          have f8 : wr.frozen? ⟨E, 8, none⟩ = false := free_blk hi.ev
          have b1 := hi.b1
          have b2 := hi.b2
          have bw := hi.bw
          have h0w := hbm.size
          have hE8 := set8_blk (v0 := .int .i64 (g 1)) (v1 := .int .i64 (g 2)) (v2 := .int .i64 (g 3)) (v3 := .int .i64 (g 4)) (v4 := .int .i64 (g 5)) (v5 := .int .i64 (g 6)) (v6 := .int .i64 (g 7)) (v8 := .int .i64 (g 9)) hi.ev
          have hR8 := (set8_other (w := wr) (b := E) (k := w.heap.size) (v0 := .int .i64 (g 1)) (v1 := .int .i64 (g 2)) (v2 := .int .i64 (g 3)) (v3 := .int .i64 (g 4)) (v4 := .int .i64 (g 5)) (v5 := .int .i64 (g 6)) (v6 := .int .i64 (g 7)) (v8 := .int .i64 (g 9)) (by omega)).trans hi.ret
          have hN8 := (set8_other (w := wr) (b := E) (k := w.heap.size + 1) (v0 := .int .i64 (g 1)) (v1 := .int .i64 (g 2)) (v2 := .int .i64 (g 3)) (v3 := .int .i64 (g 4)) (v4 := .int .i64 (g 5)) (v5 := .int .i64 (g 6)) (v6 := .int .i64 (g 7)) (v8 := .int .i64 (g 9)) (by omega)).trans hi.non
          have hB8 := set8_below (b := E) (v0 := .int .i64 (g 1)) (v1 := .int .i64 (g 2)) (v2 := .int .i64 (g 3)) (v3 := .int .i64 (g 4)) (v4 := .int .i64 (g 5)) (v5 := .int .i64 (g 6)) (v6 := .int .i64 (g 7)) (v8 := .int .i64 (g 9)) hB (by omega)
          have HW := Lib.hid (⟨_, rfl⟩ : ∃ w8, ((((((((wr.setCell ⟨E, 0, none⟩ (.int .i64 (g 1))).setCell ⟨E, 1, none⟩ (.int .i64 (g 2))).setCell ⟨E, 2, none⟩ (.int .i64 (g 3))).setCell ⟨E, 3, none⟩ (.int .i64 (g 4))).setCell ⟨E, 4, none⟩ (.int .i64 (g 5))).setCell ⟨E, 5, none⟩ (.int .i64 (g 6))).setCell ⟨E, 6, none⟩ (.int .i64 (g 7))).setCell ⟨E, 8, none⟩ (.int .i64 (g 9))) = w8)
          have hME : M ≠ E := by omega
          go_upto_region 36 with (fail)
          obtain ⟨w8, hw8⟩ := HW.out
          rw [hw8] at hE8 hR8 hN8 hB8 ⊢
          clear hw8 HW hi hB n1 n2 n3 n4 n5 n6 n7 n9 e0 f0 e1 f1 e2 f2 e3 f3 e4 f4 e5 f5 e6 f6 e8 f8 b1 b2 bw h0w hME
          by_cases hck0 : ck = 0
          · subst hck0
            rw [if_neg (by simp)] at HS
            go_wp2_with (first
              | (with_reducible refine wpList_load_row rfl 25 (.tmp 12) rfl E rfl _ #[.int .i64 (g 1), .int .i64 (g 2), .int .i64 (g 3), .int .i64 (g 4), .int .i64 (g 5), .int .i64 (g 6), .int .i64 (g 7), .string u, .int .i64 (g 9), .string s] (0, 0) _ hE8 Tryd.underlying25 rfl (by with_unfolding_all exact info_ev) ?_)
              | ((with_reducible refine (HCK.out _).mono ?_); rintro x wy ⟨rfl, hby⟩; have hR8 := below_blk' hby hR8; have hE8 := below_blk' hby hE8; have hB8 := below_next hB8 hby)
              | (with_reducible refine wpList_store_row rfl 25 (.tmp 4) (.tmp 136) rfl w.heap.size #[.int .i64 (g 1), .int .i64 (g 2), .int .i64 (g 3), .int .i64 (g 4), .int .i64 (g 5), .int .i64 (g 6), .int .i64 (g 7), .string u, .int .i64 (g 9), .string s] rfl rfl _ _ hR8 (by with_unfolding_all exact info_ev) (by with_unfolding_all exact rfl) (by with_unfolding_all exact rfl) ?_))
            refine bodyPost_ret (v := .tuple #[.agg #[.int .i64 (g 1), .int .i64 (g 2), .int .i64 (g 3), .int .i64 (g 4), .int .i64 (g 5), .int .i64 (g 6), .int .i64 (g 7), .string u, .int .i64 (g 9), .string s], .int .i64 0]) (ret_evN rfl rfl (setRow_heap _ w.heap.size _ #[.int .i64 (g 1), .int .i64 (g 2), .int .i64 (g 3), .int .i64 (g 4), .int .i64 (g 5), .int .i64 (g 6), .int .i64 (g 7), .string u, .int .i64 (g 9), .string s] _ _ hR8) rfl rfl) rfl ?_
            rw [HS.out]
            exact ⟨rfl, below_row hB8 (Nat.le_refl _) _⟩
          · have hck' : (ck != 0) = true := by rw [bne_iff_ne]; exact hck0
            rw [if_pos hck0] at HS
            clear hck0
            go_wp2_with (first
              | (with_reducible refine wpList_load_row rfl 25 (.tmp 12) rfl E rfl _ #[.int .i64 (g 1), .int .i64 (g 2), .int .i64 (g 3), .int .i64 (g 4), .int .i64 (g 5), .int .i64 (g 6), .int .i64 (g 7), .string u, .int .i64 (g 9), .string s] (0, 0) _ hE8 Tryd.underlying25 rfl (by with_unfolding_all exact info_ev) ?_)
              | ((with_reducible refine (HCK.out _).mono ?_); rintro x wy ⟨rfl, hby⟩; have hR8 := below_blk' hby hR8; have hN8 := below_blk' hby hN8; have hB8 := below_next hB8 hby)
              | (with_reducible refine wpList_load_row rfl 25 (.tmp 6) rfl (w.heap.size + 1) rfl _ (default : Ev).cells (0, 0) _ hN8 Tryd.underlying25 rfl (by with_unfolding_all exact info_ev) ?_)
              | (with_reducible refine wpList_store_row rfl 25 (.tmp 4) (.tmp 134) rfl w.heap.size (default : Ev).cells rfl rfl _ _ hR8 (by with_unfolding_all exact info_ev) (by with_unfolding_all exact rfl) (by with_unfolding_all exact rfl) ?_))
            refine bodyPost_ret (v := .tuple #[.agg (default : Ev).cells, .int .i64 ck]) (ret_evN rfl rfl (setRow_heap _ w.heap.size _ (default : Ev).cells _ _ hR8) rfl rfl) rfl ?_
            rw [HS.out]
            exact ⟨rfl, below_row hB8 (Nat.le_refl _) _⟩
  · have he' : ((e : Int) != 0) = true := by rw [bne_iff_ne]; omega
    rw [if_pos he] at HS
    clear he hG
    go_enter Tryd.func27, Tryd.ntmps27
    go_upto_region 2 with (fail)
    rw [show (#[.int .i64 0, .int .i64 0, .int .i64 0, .int .i64 0, .int .i64 0, .int .i64 0, .int .i64 0, .string ⟨#[]⟩, .int .i64 0, .string ⟨#[]⟩] : Array Value) = (default : Ev).cells from rfl]
    obtain ⟨w0, hw0⟩ := HW.out
    rw [hw0] at hbm hR hN r0 ⊢
    clear hw0 HW r
    go_wp2_with (first
      | ((with_reducible refine (HD.out _ r0).mono ?_); rintro x w1 ⟨a, n, c, ms, rfl, hF⟩; have hR1 := below_blk' hF.bel hR; have hN1 := below_blk' hF.bel hN; have hB := below_next hbm hF.bel)
      | (with_reducible refine wpList_load_row rfl 25 (.tmp 6) rfl (w.heap.size + 1) rfl _ (default : Ev).cells (0, 0) _ hN1 Tryd.underlying25 rfl (by with_unfolding_all exact info_ev) ?_)
      | (with_reducible refine wpList_store_row rfl 25 (.tmp 4) (.tmp 31) rfl w.heap.size (default : Ev).cells rfl rfl _ _ hR1 (by with_unfolding_all exact info_ev) (by with_unfolding_all exact rfl) (by with_unfolding_all exact rfl) ?_))
    refine bodyPost_ret (v := .tuple #[.agg (default : Ev).cells, .int .i64 (e : Int)]) (ret_evN rfl rfl (setRow_heap _ w.heap.size _ (default : Ev).cells _ _ hR1) rfl rfl) rfl ?_
    rw [HS.out]
    exact ⟨rfl, below_row hB (Nat.le_refl _) _⟩
end Go.Proofs.YtkdpingniohfhaaDoor
