/-
  A block whose cells are all known: what its cells hold, that they may be written, what the block is behind a store. No condition.
-/
import Derived.Test.YtkaaabnahpmobaaDoorTwo
namespace Go.Proofs.YtkaaabnahpmobaaDoor
open Go.RowKit
set_option linter.unusedVariables false

section
variable {w : World} {b j : Nat} {cs : Array Value} {v u : Value} {t : TypeId}
theorem cell_blk (h : w.heap[b]? = some (.cells cs t (0, 0))) (hj : cs[j]? = some v) : w.cell? ⟨b, j, none⟩ = some v := by simp [World.cell?, h, hj]
theorem free_blk (h : w.heap[b]? = some (.cells cs t (0, 0))) : w.frozen? ⟨b, j, none⟩ = false := by simp [World.frozen?, h]
theorem blk_set (h : w.heap[b]? = some (.cells cs t (0, 0))) : (w.setCell ⟨b, j, none⟩ u).heap[b]? = some (.cells (cs.setIfInBounds j u) t (0, 0)) := by
  have hlt := lt_of_block h
  have h' : w.heap[b] = .cells cs t (0, 0) := by simpa [Array.getElem?_eq_getElem hlt] using h
  show (w.heap.modify b _)[b]? = _
  rw [Array.getElem?_eq_getElem (by simpa using hlt), Array.getElem_modify_self, h']
  rfl
end

/-- Three cells laid anew. -/
structure Laid3 (w : World) (b : Nat) (t : TypeId) (x y z : Value) : Prop where
  c0 : w.cell? ⟨b, 0, none⟩ = some x
  c1 : w.cell? ⟨b, 1, none⟩ = some y
  c2 : w.cell? ⟨b, 2, none⟩ = some z
  f0 : w.frozen? ⟨b, 0, none⟩ = false
  f1 : w.frozen? ⟨b, 1, none⟩ = false
  f2 : w.frozen? ⟨b, 2, none⟩ = false
theorem laid3 {w : World} {b : Nat} {t : TypeId} {x y z : Value} (h : w.heap[b]? = some (.cells #[x, y, z] t (0, 0))) : Laid3 w b t x y z :=
  ⟨cell_blk h rfl, cell_blk h rfl, cell_blk h rfl, free_blk h, free_blk h, free_blk h⟩
theorem set3_0 {w : World} {b : Nat} {t : TypeId} {x y z u : Value} (h : w.heap[b]? = some (.cells #[x, y, z] t (0, 0))) : (w.setCell ⟨b, 0, none⟩ u).heap[b]? = some (.cells #[u, y, z] t (0, 0)) := blk_set h
theorem set3_1 {w : World} {b : Nat} {t : TypeId} {x y z u : Value} (h : w.heap[b]? = some (.cells #[x, y, z] t (0, 0))) : (w.setCell ⟨b, 1, none⟩ u).heap[b]? = some (.cells #[x, u, z] t (0, 0)) := blk_set h
theorem set3_2 {w : World} {b : Nat} {t : TypeId} {x y z u : Value} (h : w.heap[b]? = some (.cells #[x, y, z] t (0, 0))) : (w.setCell ⟨b, 2, none⟩ u).heap[b]? = some (.cells #[x, y, u] t (0, 0)) := blk_set h

/-- Below stays under three stores into a block of the call's own. -/
theorem below_set3 {B : Nat} {a w : World} {b : Nat} {x y z : Value} (h : Below B a w) (hb : B ≤ b) : Below B a (((w.setCell ⟨b, 0, none⟩ x).setCell ⟨b, 1, none⟩ y).setCell ⟨b, 2, none⟩ z) :=
  ((h.setCell (p := ⟨b, 0, none⟩) hb x).setCell (p := ⟨b, 1, none⟩) hb y).setCell (p := ⟨b, 2, none⟩) hb z

theorem own_set3 {w : World} {base : Nat} {e : TypeId} {size : Nat} {v : Value} {n : Nat} {xs : List Value} {b : Nat} {x y z : Value} (h : w.ownsRow base e size v n xs) (hb : v.ownBlock ≠ some b) :
    (((w.setCell ⟨b, 0, none⟩ x).setCell ⟨b, 1, none⟩ y).setCell ⟨b, 2, none⟩ z).ownsRow base e size v n xs :=
  ((h.kept (grown_set w b 0 x) (.inr hb)).kept (grown_set _ b 1 y) (.inr hb)).kept (grown_set _ b 2 z) (.inr hb)
end Go.Proofs.YtkaaabnahpmobaaDoor
