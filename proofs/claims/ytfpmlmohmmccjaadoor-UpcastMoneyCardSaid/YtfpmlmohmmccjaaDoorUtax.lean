/-
  What each step makes of an event; the table of taxes in memory; the walks of the four steps behind a pointer. Condition: the program's table of taxes holds what its text lays.
-/
import Derived.Test.YtfpmlmohmmccjaaDoorStyev
import Derived.Test.YtfpmlmohmmccjaaDoorSev
import Derived.Test.YtfpmlmohmmccjaaDoorUplain
import Derived.Deep.RegionWith
namespace Go.Proofs.YtfpmlmohmmccjaaDoor
open Go.RowKit
set_option linter.unusedVariables false

def taxOf (c : Int) : Int := if c = 1 then 1900 else if c = 2 then 2000 else if c = 3 then 700 else 0
def Ev.up1 (e : Ev) : Ev := { e with price := e.price * 100 }
def Ev.up2 (e : Ev) : Ev := { e with kind := if e.qty < 0 ∧ e.kind = 2 then 6 else e.kind, qty := if e.qty < 0 then (if e.kind = 2 then -e.qty else 0) else e.qty, tax := taxOf e.cur }
def Ev.up3 (e : Ev) : Ev := { e with who := ⟨#[111, 108, 100]⟩ }
def Ev.up4 (e : Ev) : Ev := { e with kind := if e.kind = 4 ∧ e.qty = 0 then 10 else e.kind, item := if e.kind = 4 ∧ e.qty = 0 then 0 else e.item }
def Ev.up (v : Int) (e : Ev) : Ev := if v = 1 then e.up1 else if v = 2 then e.up2 else if v = 3 then e.up3 else if v = 4 then e.up4 else e

/-- The table of taxes stands in memory. -/
def Tab (w : World) : Prop := ∀ j, j < 4 → w.cell? ⟨0, j, none⟩ = some (.int .i64 (taxOf (j : Int)))
theorem Tab.of_heap {w w' : World} (h : Tab w) (hb : ∀ k, k < w.heap.size → w'.heap[k]? = w.heap[k]?) : Tab w' := fun j hj => by
  have h1 := h j hj
  rw [← h1]
  exact World.cell?_of_block (hb _ (World.block_lt_of_cell? w _ h1))
theorem Tab.below {w w' : World} (h : Tab w) (hb : Below w.heap.size w w') : Tab w' := h.of_heap hb.block
theorem Tab.still {w w' : World} (h : Tab w) (hb : Still w w') : Tab w' := h.of_heap fun k _ => by rw [hb.heap]

/-- An event's block. -/
def EvB (w : World) (b : Nat) (e : Ev) : Prop := w.heap[b]? = some (.cells e.cells 24 (0, 0))
/-- The event behind a pointer is turned; nothing else is. -/
def Turned (w : World) (b : Nat) (e : Ev) (x : Ending) (w' : World) : Prop := (∃ v, x = .returned v) ∧ EvB w' b e ∧ w.grownBy w' (some b)

theorem w64 {n : Int} (h1 : -9223372036854775808 ≤ n) (h2 : n ≤ 9223372036854775807) : wrap64 n = n := by unfold wrap64; omega

theorem hund_any (b : Nat) (e : Ev) (w : World) (h : EvB w b e) (h1 : 0 ≤ e.price) (h2 : e.price ≤ 1000000) : Calls Tryd.prog 14 #[.pointer (some ⟨b, 0, none⟩)] w (Turned w b e.up1) := by
  unfold EvB Ev.cells at h
  have hc : w.cell? ⟨b, 4, none⟩ = some (.int .i64 e.price) := cell_blk h rfl
  have hf : w.frozen? ⟨b, 4, none⟩ = false := free_blk h
  have hr : wrap64 (e.price * 100) = e.price * 100 := w64 (by omega) (by omega)
  go_enter Tryd.func14, Tryd.ntmps14
  go_wp2_with fail
  refine bodyPost_end (results_none rfl _ _ _) rfl ?_
  exact ⟨⟨_, rfl⟩, blk_set h, grown_set _ _ _ _⟩

theorem signed_any (b : Nat) (e : Ev) (w : World) (h : EvB w b e) : Calls Tryd.prog 16 #[.pointer (some ⟨b, 0, none⟩)] w (Turned w b e.up3) := by
  unfold EvB Ev.cells at h
  have hc : w.cell? ⟨b, 7, none⟩ = some (.string e.who) := cell_blk h rfl
  have hf : w.frozen? ⟨b, 7, none⟩ = false := free_blk h
  go_enter Tryd.func16, Tryd.ntmps16
  go_wp2_with fail
  refine bodyPost_end (results_none rfl _ _ _) rfl ?_
  exact ⟨⟨_, rfl⟩, blk_set h, grown_set _ _ _ _⟩

theorem clears_any (b : Nat) (e : Ev) (w : World) (h : EvB w b e) : Calls Tryd.prog 17 #[.pointer (some ⟨b, 0, none⟩)] w (Turned w b e.up4) := by
  unfold EvB Ev.cells at h
  have c0 : w.cell? ⟨b, 0, none⟩ = some (.int .i64 e.kind) := cell_blk h rfl
  have c2 : w.cell? ⟨b, 2, none⟩ = some (.int .i64 e.item) := cell_blk h rfl
  have c3 : w.cell? ⟨b, 3, none⟩ = some (.int .i64 e.qty) := cell_blk h rfl
  have f0 : w.frozen? ⟨b, 0, none⟩ = false := free_blk h
  have f2 : w.frozen? ⟨b, 2, none⟩ = false := free_blk h
  have HB := Lib.hid h
  clear h
  by_cases hk : e.kind = 4
  · by_cases hq : e.qty = 0
    · have hE : e.up4 = { e with kind := 10, item := 0 } := by unfold Ev.up4; rw [if_pos ⟨hk, hq⟩, if_pos ⟨hk, hq⟩]
      rw [hE]
      go_enter Tryd.func17, Tryd.ntmps17
      go_wp2_with fail
      refine bodyPost_end (results_none rfl _ _ _) rfl ?_
      exact ⟨⟨_, rfl⟩, blk_set (blk_set HB.out), grownBy_trans (grown_set _ _ _ _) (grown_set _ _ _ _)⟩
    · have hE : e.up4 = e := by unfold Ev.up4; rw [if_neg (fun h => hq h.2), if_neg (fun h => hq h.2)]
      rw [hE]
      have hqb : (e.qty == 0) = false := by simpa using hq
      go_enter Tryd.func17, Tryd.ntmps17
      go_wp2_with fail
      refine bodyPost_end (results_none rfl _ _ _) rfl ?_
      exact ⟨⟨_, rfl⟩, HB.out, grownBy_refl _ _⟩
  · have hE : e.up4 = e := by unfold Ev.up4; rw [if_neg (fun h => hk h.1), if_neg (fun h => hk h.1)]
    rw [hE]
    have hkb : (e.kind == 4) = false := by simpa using hk
    go_enter Tryd.func17, Tryd.ntmps17
    go_wp2_with fail
    refine bodyPost_end (results_none rfl _ _ _) rfl ?_
    exact ⟨⟨_, rfl⟩, HB.out, grownBy_refl _ _⟩

theorem drops_any (b : Nat) (e : Ev) (w : World) (h : EvB w b e) (ht : Tab w) (hb : 0 < b) (q1 : -10000 ≤ e.qty) (q2 : e.qty ≤ 10000) (c1 : 0 ≤ e.cur) (c2 : e.cur ≤ 3) : Calls Tryd.prog 15 #[.pointer (some ⟨b, 0, none⟩)] w (Turned w b e.up2) := by
  unfold EvB Ev.cells at h
  have g0 : w.cell? ⟨b, 0, none⟩ = some (.int .i64 e.kind) := cell_blk h rfl
  have g3 : w.cell? ⟨b, 3, none⟩ = some (.int .i64 e.qty) := cell_blk h rfl
  have g5 : w.cell? ⟨b, 5, none⟩ = some (.int .i64 e.cur) := cell_blk h rfl
  have g6 : w.cell? ⟨b, 6, none⟩ = some (.int .i64 e.tax) := cell_blk h rfl
  have f0 : w.frozen? ⟨b, 0, none⟩ = false := free_blk h
  have f3 : w.frozen? ⟨b, 3, none⟩ = false := free_blk h
  have f6 : w.frozen? ⟨b, 6, none⟩ = false := free_blk h
  have HB := Lib.hid h
  clear h
  obtain ⟨c, hc⟩ : ∃ c : Nat, e.cur = (c : Int) := ⟨e.cur.toNat, by omega⟩
  have hc4 : c < 4 := by omega
  have hcell := ht c hc4
  have hne : 0 ≠ b := by omega
  have hne2 : b ≠ 0 := by omega
  have HT : Hid (e.up2.tax = taxOf (c : Int)) := Lib.hid (by show taxOf e.cur = _; rw [hc])
  rw [hc] at g5
  have hc0 : (0 : Int) ≤ (c : Int) := by omega
  have hc3 : (c : Int) < 4 := by omega
  clear ht c1 c2 hb
  by_cases hq : e.qty < 0
  · by_cases hk : e.kind = 2
    · have hn : wrap64 (-e.qty) = -e.qty := w64 (by omega) (by omega)
      have HE : Hid (e.up2 = { e with kind := 6, qty := -e.qty, tax := taxOf (c : Int) }) := Lib.hid (by unfold Ev.up2; rw [if_pos ⟨hq, hk⟩, if_pos hq, if_pos hk, hc])
      have hp : ¬ -e.qty ≤ 0 := by omega
      have hp2 : 0 ≤ -e.qty := by omega
      clear q1 q2 hc
      go_enter Tryd.func15, Tryd.ntmps15
      go_wp2_with fail
      refine bodyPost_end (results_none rfl _ _ _) rfl ?_
      rw [HE.out]
      exact ⟨⟨_, rfl⟩, blk_set (blk_set (blk_set (blk_set HB.out))), grownBy_trans (grownBy_trans (grownBy_trans (grown_set _ _ _ _) (grown_set _ _ _ _)) (grown_set _ _ _ _)) (grown_set _ _ _ _)⟩
    · have hkb : (e.kind == 2) = false := by simpa using hk
      have HE : Hid (e.up2 = { e with qty := 0, tax := taxOf (c : Int) }) := Lib.hid (by unfold Ev.up2; rw [if_neg (fun h => hk h.2), if_pos hq, if_neg hk, hc])
      have hp : e.qty ≤ 0 := by omega
      clear q1 q2 hc
      go_enter Tryd.func15, Tryd.ntmps15
      go_wp2_with fail
      refine bodyPost_end (results_none rfl _ _ _) rfl ?_
      rw [HE.out]
      exact ⟨⟨_, rfl⟩, blk_set (blk_set HB.out), grownBy_trans (grown_set _ _ _ _) (grown_set _ _ _ _)⟩
  · by_cases hz : e.qty ≤ 0
    · have HE : Hid (e.up2 = { e with qty := 0, tax := taxOf (c : Int) }) := Lib.hid (by unfold Ev.up2; rw [if_neg (fun h => hq h.1), if_neg hq, hc, show e.qty = 0 by omega])
      have hmax : (0 : Int) ≤ e.qty := by omega
      clear q1 q2 hc
      go_enter Tryd.func15, Tryd.ntmps15
      go_wp2_with fail
      refine bodyPost_end (results_none rfl _ _ _) rfl ?_
      rw [HE.out]
      exact ⟨⟨_, rfl⟩, blk_set (blk_set HB.out), grownBy_trans (grown_set _ _ _ _) (grown_set _ _ _ _)⟩
    · have HE : Hid (e.up2 = { e with tax := taxOf (c : Int) }) := Lib.hid (by unfold Ev.up2; rw [if_neg (fun h => hq h.1), if_neg hq, hc])
      have hmax : (0 : Int) ≤ e.qty := by omega
      clear q1 q2 hc
      go_enter Tryd.func15, Tryd.ntmps15
      go_wp2_with fail
      refine bodyPost_end (results_none rfl _ _ _) rfl ?_
      rw [HE.out]
      exact ⟨⟨_, rfl⟩, blk_set (blk_set HB.out), grownBy_trans (grown_set _ _ _ _) (grown_set _ _ _ _)⟩

theorem below_turned {B b : Nat} {a w w' : World} (h : Below B a w) (hg : w.grownBy w' (some b)) (hsz : B ≤ w.heap.size) (hb : B ≤ b) : Below B a w' := h.grown hg hsz (fun k hk => by cases hk; exact hb)
theorem Tab.turned {w w' : World} {b : Nat} (h : Tab w) (hg : w.grownBy w' (some b)) (hb : 0 < b) : Tab w' := fun j hj => by
  have h1 := h j hj
  have hlt := World.block_lt_of_cell? w _ h1
  rw [← h1]
  exact World.cell?_of_block (hg.block _ hlt (fun e => by cases e; exact absurd hb (Nat.lt_irrefl _)))
theorem Tab.lt {w : World} (h : Tab w) : 0 < w.heap.size := World.block_lt_of_cell? w _ (h 0 (by decide))
theorem blk_turned {w w' : World} {b c : Nat} {x : Obj} (h : w.heap[c]? = some x) (hg : w.grownBy w' (some b)) (hb : c ≠ b) : w'.heap[c]? = some x := by
  rw [hg.block _ (lt_of_block h) (fun e => by cases e; exact hb rfl)]; exact h
end Go.Proofs.YtfpmlmohmmccjaaDoor
