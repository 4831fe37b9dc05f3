/-
  Ten cells of a block; a cell behind a callee. No condition.
-/
import Derived.Test.YtfpmlmohmmccjaaDoorStyev
namespace Go.Proofs.YtfpmlmohmmccjaaDoor
open Go.RowKit
set_option linter.unusedVariables false

theorem below_cell {w w' : World} {b o : Nat} {x : Value} (hg : Below w.heap.size w w') (hc : w.cell? ⟨b, o, none⟩ = some x) : w'.cell? ⟨b, o, none⟩ = some x := by
  have hlt := World.block_lt_of_cell? w _ hc
  rw [World.cell?_of_block (hg.block b hlt)]
  exact hc

/-- Ten cells of a block. -/
structure EvAt (w : World) (b : Nat) (x0 x1 x2 x3 x4 x5 x6 x7 x8 x9 : Value) : Prop where
  c0 : w.cell? ⟨b, 0, none⟩ = some x0
  c1 : w.cell? ⟨b, 1, none⟩ = some x1
  c2 : w.cell? ⟨b, 2, none⟩ = some x2
  c3 : w.cell? ⟨b, 3, none⟩ = some x3
  c4 : w.cell? ⟨b, 4, none⟩ = some x4
  c5 : w.cell? ⟨b, 5, none⟩ = some x5
  c6 : w.cell? ⟨b, 6, none⟩ = some x6
  c7 : w.cell? ⟨b, 7, none⟩ = some x7
  c8 : w.cell? ⟨b, 8, none⟩ = some x8
  c9 : w.cell? ⟨b, 9, none⟩ = some x9
theorem evAt {w : World} {b : Nat} {t : TypeId} {x0 x1 x2 x3 x4 x5 x6 x7 x8 x9 : Value} (h : w.heap[b]? = some (.cells #[x0, x1, x2, x3, x4, x5, x6, x7, x8, x9] t (0, 0))) : EvAt w b x0 x1 x2 x3 x4 x5 x6 x7 x8 x9 :=
  ⟨cell_blk h rfl, cell_blk h rfl, cell_blk h rfl, cell_blk h rfl, cell_blk h rfl, cell_blk h rfl, cell_blk h rfl, cell_blk h rfl, cell_blk h rfl, cell_blk h rfl⟩
theorem below_blk {w w' : World} {b : Nat} {x : Obj} (hb : Below w.heap.size w w') (h : w.heap[b]? = some x) : w'.heap[b]? = some x := (hb.block _ (lt_of_block h)).trans h
end Go.Proofs.YtfpmlmohmmccjaaDoor
