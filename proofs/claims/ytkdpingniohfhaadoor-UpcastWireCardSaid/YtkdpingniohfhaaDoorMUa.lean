/-
  What each step makes of an event; the table of taxes in memory; the walks of the four steps behind a pointer. Condition: the program's table of taxes holds what its text lays.
  What a right event of a version is, and that each step brings a right event of the next version. No condition.
-/
import Derived.Test.YtkdpingniohfhaaDoorMSty
import Derived.Test.YtkdpingniohfhaaDoorMBase
import Derived.Deep.RegionWith
import Derived.Test.YtkdpingniohfhaaDoorMTb
namespace Go.Proofs.YtkdpingniohfhaaDoor
open Go.RowKit
set_option linter.unusedVariables false

def taxOf (c : Int) : Int := if c = 1 then 1900 else if c = 2 then 2000 else if c = 3 then 700 else 0
def Ev.up1 (e : Ev) : Ev := { e with price := e.price * 100 }
def Ev.up2 (e : Ev) : Ev := { e with kind := if e.qty < 0 ∧ e.kind = 2 then 6 else e.kind, qty := if e.qty < 0 then (if e.kind = 2 then -e.qty else 0) else e.qty, tax := taxOf e.cur }
def Ev.up3 (e : Ev) : Ev := { e with who := ⟨#[111, 108, 100]⟩ }
def Ev.up4 (e : Ev) : Ev := { e with kind := if e.kind = 4 ∧ e.qty = 0 then 10 else e.kind, item := if e.kind = 4 ∧ e.qty = 0 then 0 else e.item }
def Ev.up (v : Int) (e : Ev) : Ev := if v = 1 then e.up1 else if v = 2 then e.up2 else if v = 3 then e.up3 else if v = 4 then e.up4 else e

/-- The table of taxes stands in memory. -/
def Tab (w : World) : Prop := ∀ j, j < 4 → w.cell? ⟨0, j, none⟩ = some (.int .i64 (taxOf (j : Int)))
theorem Tab.of_heap {w w' : World} (h : Tab w) (hb : ∀ k, k < w.heap.size → w'.heap[k]? = w.heap[k]?) : Tab w' := fun j hj => by
  have h1 := h j hj
  rw [← h1]
  exact World.cell?_of_block (hb _ (World.block_lt_of_cell? w _ h1))
theorem Tab.below {w w' : World} (h : Tab w) (hb : Below w.heap.size w w') : Tab w' := h.of_heap hb.block
theorem Tab.still {w w' : World} (h : Tab w) (hb : Still w w') : Tab w' := h.of_heap fun k _ => by rw [hb.heap]

/-- An event's block. -/
def EvB (w : World) (b : Nat) (e : Ev) : Prop := w.heap[b]? = some (.cells e.cells 25 (0, 0))
/-- The event behind a pointer is turned; nothing else is. -/
def Turned (w : World) (b : Nat) (e : Ev) (x : Ending) (w' : World) : Prop := (∃ v, x = .returned v) ∧ EvB w' b e ∧ w.grownBy w' (some b)

theorem w64 {n : Int} (h1 : -9223372036854775808 ≤ n) (h2 : n ≤ 9223372036854775807) : wrap64 n = n := by unfold wrap64; omega

theorem hund_any (b : Nat) (e : Ev) (w : World) (h : EvB w b e) (h1 : 0 ≤ e.price) (h2 : e.price ≤ 1000000) : Calls Tryd.prog 22 #[.pointer (some ⟨b, 0, none⟩)] w (Turned w b e.up1) := by
  unfold EvB Ev.cells at h
  have hc : w.cell? ⟨b, 4, none⟩ = some (.int .i64 e.price) := cell_blk h rfl
  have hf : w.frozen? ⟨b, 4, none⟩ = false := free_blk h
  have hr : wrap64 (e.price * 100) = e.price * 100 := w64 (by omega) (by omega)
  go_enter Tryd.func22, Tryd.ntmps22
  go_wp2_with fail
  refine bodyPost_end (results_none rfl _ _ _) rfl ?_
  exact ⟨⟨_, rfl⟩, blk_set h, grown_set _ _ _ _⟩

theorem signed_any (b : Nat) (e : Ev) (w : World) (h : EvB w b e) : Calls Tryd.prog 24 #[.pointer (some ⟨b, 0, none⟩)] w (Turned w b e.up3) := by
  unfold EvB Ev.cells at h
  have hc : w.cell? ⟨b, 7, none⟩ = some (.string e.who) := cell_blk h rfl
  have hf : w.frozen? ⟨b, 7, none⟩ = false := free_blk h
  go_enter Tryd.func24, Tryd.ntmps24
  go_wp2_with fail
  refine bodyPost_end (results_none rfl _ _ _) rfl ?_
  exact ⟨⟨_, rfl⟩, blk_set h, grown_set _ _ _ _⟩

theorem clears_any (b : Nat) (e : Ev) (w : World) (h : EvB w b e) : Calls Tryd.prog 25 #[.pointer (some ⟨b, 0, none⟩)] w (Turned w b e.up4) := by
  unfold EvB Ev.cells at h
  have c0 : w.cell? ⟨b, 0, none⟩ = some (.int .i64 e.kind) := cell_blk h rfl
  have c2 : w.cell? ⟨b, 2, none⟩ = some (.int .i64 e.item) := cell_blk h rfl
  have c3 : w.cell? ⟨b, 3, none⟩ = some (.int .i64 e.qty) := cell_blk h rfl
  have f0 : w.frozen? ⟨b, 0, none⟩ = false := free_blk h
  have f2 : w.frozen? ⟨b, 2, none⟩ = false := free_blk h
  have HB := Lib.hid h
  clear h
  by_cases hk : e.kind = 4
  · by_cases hq : e.qty = 0
    · have hE : e.up4 = { e with kind := 10, item := 0 } := by unfold Ev.up4; rw [if_pos ⟨hk, hq⟩, if_pos ⟨hk, hq⟩]
      rw [hE]
      go_enter Tryd.func25, Tryd.ntmps25
      go_wp2_with fail
      refine bodyPost_end (results_none rfl _ _ _) rfl ?_
      exact ⟨⟨_, rfl⟩, blk_set (blk_set HB.out), grownBy_trans (grown_set _ _ _ _) (grown_set _ _ _ _)⟩
    · have hE : e.up4 = e := by unfold Ev.up4; rw [if_neg (fun h => hq h.2), if_neg (fun h => hq h.2)]
      rw [hE]
      have hqb : (e.qty == 0) = false := by simpa using hq
      go_enter Tryd.func25, Tryd.ntmps25
      go_wp2_with fail
      refine bodyPost_end (results_none rfl _ _ _) rfl ?_
      exact ⟨⟨_, rfl⟩, HB.out, grownBy_refl _ _⟩
  · have hE : e.up4 = e := by unfold Ev.up4; rw [if_neg (fun h => hk h.1), if_neg (fun h => hk h.1)]
    rw [hE]
    have hkb : (e.kind == 4) = false := by simpa using hk
    go_enter Tryd.func25, Tryd.ntmps25
    go_wp2_with fail
    refine bodyPost_end (results_none rfl _ _ _) rfl ?_
    exact ⟨⟨_, rfl⟩, HB.out, grownBy_refl _ _⟩

theorem drops_any (b : Nat) (e : Ev) (w : World) (h : EvB w b e) (ht : Tab w) (hb : 0 < b) (q1 : -10000 ≤ e.qty) (q2 : e.qty ≤ 10000) (c1 : 0 ≤ e.cur) (c2 : e.cur ≤ 3) : Calls Tryd.prog 23 #[.pointer (some ⟨b, 0, none⟩)] w (Turned w b e.up2) := by
  unfold EvB Ev.cells at h
  have g0 : w.cell? ⟨b, 0, none⟩ = some (.int .i64 e.kind) := cell_blk h rfl
  have g3 : w.cell? ⟨b, 3, none⟩ = some (.int .i64 e.qty) := cell_blk h rfl
  have g5 : w.cell? ⟨b, 5, none⟩ = some (.int .i64 e.cur) := cell_blk h rfl
  have g6 : w.cell? ⟨b, 6, none⟩ = some (.int .i64 e.tax) := cell_blk h rfl
  have f0 : w.frozen? ⟨b, 0, none⟩ = false := free_blk h
  have f3 : w.frozen? ⟨b, 3, none⟩ = false := free_blk h
  have f6 : w.frozen? ⟨b, 6, none⟩ = false := free_blk h
  have HB := Lib.hid h
  clear h
  obtain ⟨c, hc⟩ : ∃ c : Nat, e.cur = (c : Int) := ⟨e.cur.toNat, by omega⟩
  have hc4 : c < 4 := by omega
  have hcell := ht c hc4
  have hne : 0 ≠ b := by omega
  have hne2 : b ≠ 0 := by omega
  have HT : Hid (e.up2.tax = taxOf (c : Int)) := Lib.hid (by show taxOf e.cur = _; rw [hc])
  rw [hc] at g5
  have hc0 : (0 : Int) ≤ (c : Int) := by omega
  have hc3 : (c : Int) < 4 := by omega
  clear ht c1 c2 hb
  by_cases hq : e.qty < 0
  · by_cases hk : e.kind = 2
    · have hn : wrap64 (-e.qty) = -e.qty := w64 (by omega) (by omega)
      have HE : Hid (e.up2 = { e with kind := 6, qty := -e.qty, tax := taxOf (c : Int) }) := Lib.hid (by unfold Ev.up2; rw [if_pos ⟨hq, hk⟩, if_pos hq, if_pos hk, hc])
      have hp : ¬ -e.qty ≤ 0 := by omega
      have hp2 : 0 ≤ -e.qty := by omega
      clear q1 q2 hc
      go_enter Tryd.func23, Tryd.ntmps23
      go_wp2_with fail
      refine bodyPost_end (results_none rfl _ _ _) rfl ?_
      rw [HE.out]
      exact ⟨⟨_, rfl⟩, blk_set (blk_set (blk_set (blk_set HB.out))), grownBy_trans (grownBy_trans (grownBy_trans (grown_set _ _ _ _) (grown_set _ _ _ _)) (grown_set _ _ _ _)) (grown_set _ _ _ _)⟩
    · have hkb : (e.kind == 2) = false := by simpa using hk
      have HE : Hid (e.up2 = { e with qty := 0, tax := taxOf (c : Int) }) := Lib.hid (by unfold Ev.up2; rw [if_neg (fun h => hk h.2), if_pos hq, if_neg hk, hc])
      have hp : e.qty ≤ 0 := by omega
      clear q1 q2 hc
      go_enter Tryd.func23, Tryd.ntmps23
      go_wp2_with fail
      refine bodyPost_end (results_none rfl _ _ _) rfl ?_
      rw [HE.out]
      exact ⟨⟨_, rfl⟩, blk_set (blk_set HB.out), grownBy_trans (grown_set _ _ _ _) (grown_set _ _ _ _)⟩
  · by_cases hz : e.qty ≤ 0
    · have HE : Hid (e.up2 = { e with qty := 0, tax := taxOf (c : Int) }) := Lib.hid (by unfold Ev.up2; rw [if_neg (fun h => hq h.1), if_neg hq, hc, show e.qty = 0 by omega])
      have hmax : (0 : Int) ≤ e.qty := by omega
      clear q1 q2 hc
      go_enter Tryd.func23, Tryd.ntmps23
      go_wp2_with fail
      refine bodyPost_end (results_none rfl _ _ _) rfl ?_
      rw [HE.out]
      exact ⟨⟨_, rfl⟩, blk_set (blk_set HB.out), grownBy_trans (grown_set _ _ _ _) (grown_set _ _ _ _)⟩
    · have HE : Hid (e.up2 = { e with tax := taxOf (c : Int) }) := Lib.hid (by unfold Ev.up2; rw [if_neg (fun h => hq h.1), if_neg hq, hc])
      have hmax : (0 : Int) ≤ e.qty := by omega
      clear q1 q2 hc
      go_enter Tryd.func23, Tryd.ntmps23
      go_wp2_with fail
      refine bodyPost_end (results_none rfl _ _ _) rfl ?_
      rw [HE.out]
      exact ⟨⟨_, rfl⟩, blk_set (blk_set HB.out), grownBy_trans (grown_set _ _ _ _) (grown_set _ _ _ _)⟩

theorem below_turned {B b : Nat} {a w w' : World} (h : Below B a w) (hg : w.grownBy w' (some b)) (hsz : B ≤ w.heap.size) (hb : B ≤ b) : Below B a w' := h.grown hg hsz (fun k hk => by cases hk; exact hb)
theorem Tab.turned {w w' : World} {b : Nat} (h : Tab w) (hg : w.grownBy w' (some b)) (hb : 0 < b) : Tab w' := fun j hj => by
  have h1 := h j hj
  have hlt := World.block_lt_of_cell? w _ h1
  rw [← h1]
  exact World.cell?_of_block (hg.block _ hlt (fun e => by cases e; exact absurd hb (Nat.lt_irrefl _)))
theorem Tab.lt {w : World} (h : Tab w) : 0 < w.heap.size := World.block_lt_of_cell? w _ (h 0 (by decide))
theorem blk_turned {w w' : World} {b c : Nat} {x : Obj} (h : w.heap[c]? = some x) (hg : w.grownBy w' (some b)) (hb : c ≠ b) : w'.heap[c]? = some x := by
  rw [hg.block _ (lt_of_block h) (fun e => by cases e; exact hb rfl)]; exact h
end Go.Proofs.YtkdpingniohfhaaDoor

namespace Go.Proofs.YtkdpingniohfhaaDoor
open Go.RowKit
set_option linter.unusedVariables false

theorem taxOf_in (c : Int) : 0 ≤ taxOf c ∧ taxOf c ≤ 5000 := by
  unfold taxOf; split <;> (try split) <;> (try split) <;> decide

theorem up2_kind {e : Ev} (h1 : 1 ≤ e.kind) (h2 : e.kind ≤ 5) : 1 ≤ e.up2.kind ∧ e.up2.kind ≤ 7 := by
  unfold Ev.up2; dsimp only; split <;> omega
theorem up2_qty {e : Ev} (h1 : -10000 ≤ e.qty) (h2 : e.qty ≤ 10000) : 0 ≤ e.up2.qty ∧ e.up2.qty ≤ 10000 := by
  unfold Ev.up2; dsimp only; split
  · split <;> omega
  · omega
theorem up4_kind {e : Ev} (h1 : 1 ≤ e.kind) (h2 : e.kind ≤ 9) : 1 ≤ e.up4.kind ∧ e.up4.kind ≤ 10 := by
  unfold Ev.up4; dsimp only; split <;> omega
theorem up4_item {e : Ev} (h1 : 0 ≤ e.item) (h2 : e.item ≤ 65535) : 0 ≤ e.up4.item ∧ e.up4.item ≤ 65535 := by
  unfold Ev.up4; dsimp only; split <;> omega

theorem right_up {v : Int} {e : Ev} (h : Right v e) (hv : v < 5) : Right (v + 1) (e.up v) := by
  obtain ⟨h1, h5, k1, kl, us, ns, o, i, q, q3, p, p1, c, c1, t, t2, u, u3, s, s4, n4⟩ := h
  have ht := taxOf_in e.cur
  have hc : v = 1 ∨ v = 2 ∨ v = 3 ∨ v = 4 := by omega
  rcases hc with rfl | rfl | rfl | rfl
  · have hE : e.up 1 = e.up1 := rfl
    rw [hE]
    simp [lastK] at kl
    exact { v1 := by omega, v5 := by omega, k1 := k1, kl := by simp [lastK, Ev.up1]; omega, us := us, ns := ns, o := o, i := i, q := q, q3 := fun h => absurd h (by omega), p := by simp [Ev.up1]; omega, p1 := fun h => absurd h (by omega), c := c, c1 := fun h => absurd h (by omega), t := t, t2 := fun _ => t2 (by omega), u := u, u3 := fun _ => u3 (by omega), s := s, s4 := fun _ => s4 (by omega), n4 := fun _ => n4 (by omega) }
  · have hE : e.up 2 = e.up2 := rfl
    rw [hE]
    simp [lastK] at kl
    exact { v1 := by omega, v5 := by omega, k1 := (up2_kind k1 kl).1, kl := by have := (up2_kind k1 kl).2; simp [lastK]; omega, us := us, ns := ns, o := o, i := i, q := by have := up2_qty q.1 q.2; omega, q3 := fun _ => (up2_qty q.1 q.2).1, p := p, p1 := fun h => absurd h (by omega), c := c, c1 := fun h => absurd h (by omega), t := ht, t2 := fun h => absurd h (by omega), u := u, u3 := fun _ => u3 (by omega), s := s, s4 := fun _ => s4 (by omega), n4 := fun _ => n4 (by omega) }
  · have hE : e.up 3 = e.up3 := rfl
    rw [hE]
    simp [lastK] at kl
    exact { v1 := by omega, v5 := by omega, k1 := k1, kl := by simp [lastK, Ev.up3]; omega, us := by show (3 : Nat) ≤ 16; decide, ns := ns, o := o, i := i, q := q, q3 := fun _ => q3 (by omega), p := p, p1 := fun h => absurd h (by omega), c := c, c1 := fun h => absurd h (by omega), t := t, t2 := fun h => absurd h (by omega), u := (by decide : plainB ⟨#[111, 108, 100]⟩ = true), u3 := fun h => absurd h (by omega), s := s, s4 := fun _ => s4 (by omega), n4 := fun _ => n4 (by omega) }
  · have hE : e.up 4 = e.up4 := rfl
    rw [hE]
    simp [lastK] at kl
    exact { v1 := by omega, v5 := by omega, k1 := (up4_kind k1 kl).1, kl := by have := (up4_kind k1 kl).2; simp [lastK]; omega, us := us, ns := ns, o := o, i := up4_item i.1 i.2, q := q, q3 := fun _ => q3 (by omega), p := p, p1 := fun h => absurd h (by omega), c := c, c1 := fun h => absurd h (by omega), t := t, t2 := fun h => absurd h (by omega), u := u, u3 := fun h => absurd h (by omega), s := s, s4 := fun h => absurd h (by omega), n4 := fun h => absurd h (by omega) }

/-- Step after step. -/
def Ev.steps : Nat → Int → Ev → Ev
  | 0, _, e => e
  | n + 1, v, e => Ev.steps n (v + 1) (e.up v)
theorem steps_succ (n : Nat) (v : Int) (e : Ev) : Ev.steps (n + 1) v e = (Ev.steps n v e).up (v + n) := by
  induction n generalizing v e with
  | zero => simp [Ev.steps]
  | succ n ih =>
    show Ev.steps (n + 1) (v + 1) (e.up v) = _
    rw [ih]
    show _ = (Ev.steps n (v + 1) (e.up v)).up _
    congr 1
    omega
theorem right_steps (n : Nat) {v : Int} {e : Ev} (h : Right v e) (hn : v + n ≤ 5) : Right (v + n) (Ev.steps n v e) := by
  induction n with
  | zero => simpa [Ev.steps] using h
  | succ n ih =>
    rw [steps_succ]
    have := right_up (ih (by omega)) (by omega)
    have he : v + ((n + 1 : Nat) : Int) = v + n + 1 := by omega
    rw [he]; exact this
theorem steps_add (m n : Nat) (v : Int) (e : Ev) : Ev.steps (m + n) v e = Ev.steps n (v + m) (Ev.steps m v e) := by
  induction m generalizing v e with
  | zero => simp [Ev.steps]
  | succ m ih =>
    have : m + 1 + n = (m + n) + 1 := by omega
    rw [this]
    show Ev.steps (m + n) (v + 1) (e.up v) = Ev.steps n _ (Ev.steps m (v + 1) (e.up v))
    rw [ih]
    congr 1
    omega
end Go.Proofs.YtkdpingniohfhaaDoor
