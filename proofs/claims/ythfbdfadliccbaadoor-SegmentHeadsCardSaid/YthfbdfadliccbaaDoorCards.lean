/-
  DERIVED. GIVEN WITH THE SEED: THE CARDS: each row of YthfbdfadliccbaaDoorRows.lean that lists a variable, with what it lists TIED to the program's text (the seventh form; the later family's looks); each row that meets fmt, with fmt's text TOLD by the authors' own Lean function (tested against real Go, not proved from fmt's source: count such statements apart). THE CARD IS WHAT COUNTS. Prove the row's statement (the work); the ties are given (YthfbdfadliccbaaDoorTie.lean); close each card by the builder's one call (the guide's Derived/Test/ToyasCard.lean, 'card_holds'). Laid BY PROGRAM, IN A SANDBOX (cutbox-door.mjs). By AI agents, Wed Nov 11 2026. No macro, syntax, notation, axiom, sorry.
-/
import Derived.Test.YthfbdfadliccbaaDoorRows
import GoSem.ClaimSeven
namespace Go.Proofs.YthfbdfadliccbaaDoor
namespace Rows

/-- THE TIED CARD OF 'daybooklaw14.SegmentHeads'. -/
def segmentHeadsCard : Claim7 := { stood := { row := segmentHeadsRow, standIns := [], harness := (true, "050a64442115fa6c9dd9e5a769ab60b0ffe21f1025fb1728208c7f1eb30f056d"), looks := false }, kinds := [], alts := [], laidByText := true, laidKinds := [.data], laidTests := true, laidLooks := .later }
def SegmentHeadsCardSaid : Prop := Claim7.holds Tryd.pinned (.plain (OpenSpec.ofChange segmentHeadsSpec)) segmentHeadsCard

/-- THE SECOND FORM's CARD OF 'daybooklaw14.SegmentHeads'. -/
def segmentHeadsUptoCard : Claim7 := { stood := { row := segmentHeadsUptoRow, standIns := [], harness := (true, "050a64442115fa6c9dd9e5a769ab60b0ffe21f1025fb1728208c7f1eb30f056d"), looks := false }, kinds := [], alts := [], laidByText := true, laidKinds := [.data], laidTests := true, laidLooks := .later }
def SegmentHeadsUptoCardSaid : Prop := Claim7.holds Tryd.pinned (.plain (OpenSpec.upto segmentHeadsSpec)) segmentHeadsUptoCard
end Rows
end Go.Proofs.YthfbdfadliccbaaDoor
