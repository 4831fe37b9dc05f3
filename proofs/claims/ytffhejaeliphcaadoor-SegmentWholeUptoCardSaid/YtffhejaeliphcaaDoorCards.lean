/-
  DERIVED. GIVEN WITH THE SEED: THE CARDS: each row of YtffhejaeliphcaaDoorRows.lean that lists a variable, with what it lists TIED to the program's text (the seventh form; the later family's looks); each row that meets fmt, with fmt's text TOLD by the authors' own Lean function (tested against real Go, not proved from fmt's source: count such statements apart). THE CARD IS WHAT COUNTS. Prove the row's statement (the work); the ties are given (YtffhejaeliphcaaDoorTie.lean); close each card by the builder's one call (the guide's Derived/Test/ToyasCard.lean, 'card_holds'). Laid BY PROGRAM, IN A SANDBOX (cutbox-door.mjs). By AI agents, Wed Nov 11 2026. No macro, syntax, notation, axiom, sorry.
-/
import Derived.Test.YtffhejaeliphcaaDoorRows
import GoSem.ClaimSeven
namespace Go.Proofs.YtffhejaeliphcaaDoor
namespace Rows

/-- THE TIED CARD OF 'daybooklaw14.SegmentScans'. -/
def segmentScansCard : Claim7 := { stood := { row := segmentScansRow, standIns := [], harness := (true, "7da9b2327066d2dacde14f5ced570b32d96178f763c191790fb6a05db29ad2dd"), looks := false }, kinds := [], alts := [], laidByText := true, laidKinds := [.data], laidTests := true, laidLooks := .later }
def SegmentScansCardSaid : Prop := Claim7.holds Tryd.pinned (.plain (OpenSpec.ofChange segmentScansSpec)) segmentScansCard

/-- THE TIED CARD OF 'daybooklaw14.SegmentTorn'. -/
def segmentTornCard : Claim7 := { stood := { row := segmentTornRow, standIns := [], harness := (true, "7da9b2327066d2dacde14f5ced570b32d96178f763c191790fb6a05db29ad2dd"), looks := false }, kinds := [], alts := [], laidByText := true, laidKinds := [.data], laidTests := true, laidLooks := .later }
def SegmentTornCardSaid : Prop := Claim7.holds Tryd.pinned (.plain (OpenSpec.ofChange segmentTornSpec)) segmentTornCard

/-- THE TIED CARD OF 'daybooklaw14.SegmentSeals'. -/
def segmentSealsCard : Claim7 := { stood := { row := segmentSealsRow, standIns := [], harness := (true, "7da9b2327066d2dacde14f5ced570b32d96178f763c191790fb6a05db29ad2dd"), looks := false }, kinds := [], alts := [], laidByText := true, laidKinds := [.data], laidTests := true, laidLooks := .later }
def SegmentSealsCardSaid : Prop := Claim7.holds Tryd.pinned (.plain (OpenSpec.ofChange segmentSealsSpec)) segmentSealsCard

/-- THE TIED CARD OF 'daybooklaw14.SegmentBursts'. -/
def segmentBurstsCard : Claim7 := { stood := { row := segmentBurstsRow, standIns := [], harness := (true, "7da9b2327066d2dacde14f5ced570b32d96178f763c191790fb6a05db29ad2dd"), looks := false }, kinds := [], alts := [], laidByText := true, laidKinds := [.data], laidTests := true, laidLooks := .later }
def SegmentBurstsCardSaid : Prop := Claim7.holds Tryd.pinned (.plain (OpenSpec.ofChange segmentBurstsSpec)) segmentBurstsCard

/-- THE TIED CARD OF 'daybooklaw14.SegmentCloses'. -/
def segmentClosesCard : Claim7 := { stood := { row := segmentClosesRow, standIns := [], harness := (true, "7da9b2327066d2dacde14f5ced570b32d96178f763c191790fb6a05db29ad2dd"), looks := false }, kinds := [], alts := [], laidByText := true, laidKinds := [.data], laidTests := true, laidLooks := .later }
def SegmentClosesCardSaid : Prop := Claim7.holds Tryd.pinned (.plain (OpenSpec.ofChange segmentClosesSpec)) segmentClosesCard

/-- THE TIED CARD OF 'daybooklaw14.SegmentWhole'. -/
def segmentWholeCard : Claim7 := { stood := { row := segmentWholeRow, standIns := [], harness := (true, "7da9b2327066d2dacde14f5ced570b32d96178f763c191790fb6a05db29ad2dd"), looks := false }, kinds := [], alts := [], laidByText := true, laidKinds := [.data], laidTests := true, laidLooks := .later }
def SegmentWholeCardSaid : Prop := Claim7.holds Tryd.pinned (.plain (OpenSpec.ofChange segmentWholeSpec)) segmentWholeCard

/-- THE SECOND FORM's CARD OF 'daybooklaw14.SegmentScans'. -/
def segmentScansUptoCard : Claim7 := { stood := { row := segmentScansUptoRow, standIns := [], harness := (true, "7da9b2327066d2dacde14f5ced570b32d96178f763c191790fb6a05db29ad2dd"), looks := false }, kinds := [], alts := [], laidByText := true, laidKinds := [.data], laidTests := true, laidLooks := .later }
def SegmentScansUptoCardSaid : Prop := Claim7.holds Tryd.pinned (.plain (OpenSpec.upto segmentScansSpec)) segmentScansUptoCard

/-- THE SECOND FORM's CARD OF 'daybooklaw14.SegmentTorn'. -/
def segmentTornUptoCard : Claim7 := { stood := { row := segmentTornUptoRow, standIns := [], harness := (true, "7da9b2327066d2dacde14f5ced570b32d96178f763c191790fb6a05db29ad2dd"), looks := false }, kinds := [], alts := [], laidByText := true, laidKinds := [.data], laidTests := true, laidLooks := .later }
def SegmentTornUptoCardSaid : Prop := Claim7.holds Tryd.pinned (.plain (OpenSpec.upto segmentTornSpec)) segmentTornUptoCard

/-- THE SECOND FORM's CARD OF 'daybooklaw14.SegmentSeals'. -/
def segmentSealsUptoCard : Claim7 := { stood := { row := segmentSealsUptoRow, standIns := [], harness := (true, "7da9b2327066d2dacde14f5ced570b32d96178f763c191790fb6a05db29ad2dd"), looks := false }, kinds := [], alts := [], laidByText := true, laidKinds := [.data], laidTests := true, laidLooks := .later }
def SegmentSealsUptoCardSaid : Prop := Claim7.holds Tryd.pinned (.plain (OpenSpec.upto segmentSealsSpec)) segmentSealsUptoCard

/-- THE SECOND FORM's CARD OF 'daybooklaw14.SegmentBursts'. -/
def segmentBurstsUptoCard : Claim7 := { stood := { row := segmentBurstsUptoRow, standIns := [], harness := (true, "7da9b2327066d2dacde14f5ced570b32d96178f763c191790fb6a05db29ad2dd"), looks := false }, kinds := [], alts := [], laidByText := true, laidKinds := [.data], laidTests := true, laidLooks := .later }
def SegmentBurstsUptoCardSaid : Prop := Claim7.holds Tryd.pinned (.plain (OpenSpec.upto segmentBurstsSpec)) segmentBurstsUptoCard

/-- THE SECOND FORM's CARD OF 'daybooklaw14.SegmentCloses'. -/
def segmentClosesUptoCard : Claim7 := { stood := { row := segmentClosesUptoRow, standIns := [], harness := (true, "7da9b2327066d2dacde14f5ced570b32d96178f763c191790fb6a05db29ad2dd"), looks := false }, kinds := [], alts := [], laidByText := true, laidKinds := [.data], laidTests := true, laidLooks := .later }
def SegmentClosesUptoCardSaid : Prop := Claim7.holds Tryd.pinned (.plain (OpenSpec.upto segmentClosesSpec)) segmentClosesUptoCard

/-- THE SECOND FORM's CARD OF 'daybooklaw14.SegmentWhole'. -/
def segmentWholeUptoCard : Claim7 := { stood := { row := segmentWholeUptoRow, standIns := [], harness := (true, "7da9b2327066d2dacde14f5ced570b32d96178f763c191790fb6a05db29ad2dd"), looks := false }, kinds := [], alts := [], laidByText := true, laidKinds := [.data], laidTests := true, laidLooks := .later }
def SegmentWholeUptoCardSaid : Prop := Claim7.holds Tryd.pinned (.plain (OpenSpec.upto segmentWholeSpec)) segmentWholeUptoCard
end Rows
end Go.Proofs.YtffhejaeliphcaaDoor
