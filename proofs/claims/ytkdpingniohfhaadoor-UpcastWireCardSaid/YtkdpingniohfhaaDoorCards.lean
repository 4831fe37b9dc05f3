/-
  DERIVED. GIVEN WITH THE SEED: THE CARDS: each row of YtkdpingniohfhaaDoorRows.lean that lists a variable, with what it lists TIED to the program's text (the seventh form; the later family's looks); each row that meets fmt, with fmt's text TOLD by the authors' own Lean function (tested against real Go, not proved from fmt's source: count such statements apart). THE CARD IS WHAT COUNTS. Prove the row's statement (the work); the ties are given (YtkdpingniohfhaaDoorTie.lean); close each card by the builder's one call (the guide's Derived/Test/ToyasCard.lean, 'card_holds'). Laid BY PROGRAM, IN A SANDBOX (cutbox-door.mjs). By AI agents, Wed Nov 11 2026. No macro, syntax, notation, axiom, sorry.
-/
import Derived.Test.YtkdpingniohfhaaDoorRows
import GoSem.ClaimSeven
namespace Go.Proofs.YtkdpingniohfhaaDoor
namespace Rows

/-- THE TIED CARD OF 'daybooklaw07.UpcastReads'. -/
def upcastReadsCard : Claim7 := { stood := { row := upcastReadsRow, standIns := [], harness := (true, "90165e48659ea552460f0cae1750c092e779eddf7cfbca357da06d23a5cb39de"), looks := true }, kinds := [], alts := [], laidByText := true, laidKinds := [.data], laidTests := true, laidLooks := .later }
def UpcastReadsCardSaid : Prop := Claim7.holds Tryd.pinned (.plain (OpenSpec.ofChange upcastReadsSpec)) upcastReadsCard

/-- THE TIED CARD OF 'daybooklaw07.UpcastWire'. -/
def upcastWireCard : Claim7 := { stood := { row := upcastWireRow, standIns := [], harness := (true, "90165e48659ea552460f0cae1750c092e779eddf7cfbca357da06d23a5cb39de"), looks := true }, kinds := [], alts := [], laidByText := true, laidKinds := [.data], laidTests := true, laidLooks := .later }
def UpcastWireCardSaid : Prop := Claim7.holds Tryd.pinned (.plain (OpenSpec.ofChange upcastWireSpec)) upcastWireCard

/-- THE SECOND FORM's CARD OF 'daybooklaw07.UpcastReads'. -/
def upcastReadsUptoCard : Claim7 := { stood := { row := upcastReadsUptoRow, standIns := [], harness := (true, "90165e48659ea552460f0cae1750c092e779eddf7cfbca357da06d23a5cb39de"), looks := true }, kinds := [], alts := [], laidByText := true, laidKinds := [.data], laidTests := true, laidLooks := .later }
def UpcastReadsUptoCardSaid : Prop := Claim7.holds Tryd.pinned (.plain (OpenSpec.upto upcastReadsSpec)) upcastReadsUptoCard

/-- THE SECOND FORM's CARD OF 'daybooklaw07.UpcastWire'. -/
def upcastWireUptoCard : Claim7 := { stood := { row := upcastWireUptoRow, standIns := [], harness := (true, "90165e48659ea552460f0cae1750c092e779eddf7cfbca357da06d23a5cb39de"), looks := true }, kinds := [], alts := [], laidByText := true, laidKinds := [.data], laidTests := true, laidLooks := .later }
def UpcastWireUptoCardSaid : Prop := Claim7.holds Tryd.pinned (.plain (OpenSpec.upto upcastWireSpec)) upcastWireUptoCard
end Rows
end Go.Proofs.YtkdpingniohfhaaDoor
