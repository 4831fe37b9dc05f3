/-
  DERIVED. GIVEN WITH THE SEED: THE CARDS: each row of YtkaaabnahpmobaaDoorRows.lean that lists a variable, with what it lists TIED to the program's text (the seventh form; the later family's looks); each row that meets fmt, with fmt's text TOLD by the authors' own Lean function (tested against real Go, not proved from fmt's source: count such statements apart). THE CARD IS WHAT COUNTS. Prove the row's statement (the work); the ties are given (YtkaaabnahpmobaaDoorTie.lean); close each card by the builder's one call (the guide's Derived/Test/ToyasCard.lean, 'card_holds'). Laid BY PROGRAM, IN A SANDBOX (cutbox-door.mjs). By AI agents, Wed Nov 11 2026. No macro, syntax, notation, axiom, sorry.
-/
import Derived.Test.YtkaaabnahpmobaaDoorRows
import GoSem.ClaimSeven
namespace Go.Proofs.YtkaaabnahpmobaaDoor
namespace Rows

/-- THE TIED CARD OF 'daybooklaw12.ScanAlls'. -/
def scanAllsCard : Claim7 := { stood := { row := scanAllsRow, standIns := [], harness := (true, "7e3cb03c149eca23f8bce47b53460941b5cd2970f4142f0012fe110a5c174ac5"), looks := false }, kinds := [], alts := [], laidByText := true, laidKinds := [.data], laidTests := true, laidLooks := .later }
def ScanAllsCardSaid : Prop := Claim7.holds Tryd.pinned (.plain (OpenSpec.ofChange scanAllsSpec)) scanAllsCard

/-- THE TIED CARD OF 'daybooklaw12.ScanEach'. -/
def scanEachCard : Claim7 := { stood := { row := scanEachRow, standIns := [], harness := (true, "7e3cb03c149eca23f8bce47b53460941b5cd2970f4142f0012fe110a5c174ac5"), looks := false }, kinds := [], alts := [], laidByText := true, laidKinds := [.data], laidTests := true, laidLooks := .later }
def ScanEachCardSaid : Prop := Claim7.holds Tryd.pinned (.plain (OpenSpec.ofChange scanEachSpec)) scanEachCard

/-- THE TIED CARD OF 'daybooklaw12.ScanRuns'. -/
def scanRunsCard : Claim7 := { stood := { row := scanRunsRow, standIns := [], harness := (true, "7e3cb03c149eca23f8bce47b53460941b5cd2970f4142f0012fe110a5c174ac5"), looks := false }, kinds := [], alts := [], laidByText := true, laidKinds := [.data], laidTests := true, laidLooks := .later }
def ScanRunsCardSaid : Prop := Claim7.holds Tryd.pinned (.plain (OpenSpec.ofChange scanRunsSpec)) scanRunsCard

/-- THE TIED CARD OF 'daybooklaw12.ScanTorn'. -/
def scanTornCard : Claim7 := { stood := { row := scanTornRow, standIns := [], harness := (true, "7e3cb03c149eca23f8bce47b53460941b5cd2970f4142f0012fe110a5c174ac5"), looks := false }, kinds := [], alts := [], laidByText := true, laidKinds := [.data], laidTests := true, laidLooks := .later }
def ScanTornCardSaid : Prop := Claim7.holds Tryd.pinned (.plain (OpenSpec.ofChange scanTornSpec)) scanTornCard

/-- THE TIED CARD OF 'daybooklaw12.ScanBursts'. -/
def scanBurstsCard : Claim7 := { stood := { row := scanBurstsRow, standIns := [], harness := (true, "7e3cb03c149eca23f8bce47b53460941b5cd2970f4142f0012fe110a5c174ac5"), looks := false }, kinds := [], alts := [], laidByText := true, laidKinds := [.data], laidTests := true, laidLooks := .later }
def ScanBurstsCardSaid : Prop := Claim7.holds Tryd.pinned (.plain (OpenSpec.ofChange scanBurstsSpec)) scanBurstsCard

/-- THE TIED CARD OF 'daybooklaw12.ScanJoins'. -/
def scanJoinsCard : Claim7 := { stood := { row := scanJoinsRow, standIns := [], harness := (true, "7e3cb03c149eca23f8bce47b53460941b5cd2970f4142f0012fe110a5c174ac5"), looks := false }, kinds := [], alts := [], laidByText := true, laidKinds := [.data], laidTests := true, laidLooks := .later }
def ScanJoinsCardSaid : Prop := Claim7.holds Tryd.pinned (.plain (OpenSpec.ofChange scanJoinsSpec)) scanJoinsCard

/-- THE SECOND FORM's CARD OF 'daybooklaw12.ScanAlls'. -/
def scanAllsUptoCard : Claim7 := { stood := { row := scanAllsUptoRow, standIns := [], harness := (true, "7e3cb03c149eca23f8bce47b53460941b5cd2970f4142f0012fe110a5c174ac5"), looks := false }, kinds := [], alts := [], laidByText := true, laidKinds := [.data], laidTests := true, laidLooks := .later }
def ScanAllsUptoCardSaid : Prop := Claim7.holds Tryd.pinned (.plain (OpenSpec.upto scanAllsSpec)) scanAllsUptoCard

/-- THE SECOND FORM's CARD OF 'daybooklaw12.ScanEach'. -/
def scanEachUptoCard : Claim7 := { stood := { row := scanEachUptoRow, standIns := [], harness := (true, "7e3cb03c149eca23f8bce47b53460941b5cd2970f4142f0012fe110a5c174ac5"), looks := false }, kinds := [], alts := [], laidByText := true, laidKinds := [.data], laidTests := true, laidLooks := .later }
def ScanEachUptoCardSaid : Prop := Claim7.holds Tryd.pinned (.plain (OpenSpec.upto scanEachSpec)) scanEachUptoCard

/-- THE SECOND FORM's CARD OF 'daybooklaw12.ScanRuns'. -/
def scanRunsUptoCard : Claim7 := { stood := { row := scanRunsUptoRow, standIns := [], harness := (true, "7e3cb03c149eca23f8bce47b53460941b5cd2970f4142f0012fe110a5c174ac5"), looks := false }, kinds := [], alts := [], laidByText := true, laidKinds := [.data], laidTests := true, laidLooks := .later }
def ScanRunsUptoCardSaid : Prop := Claim7.holds Tryd.pinned (.plain (OpenSpec.upto scanRunsSpec)) scanRunsUptoCard

/-- THE SECOND FORM's CARD OF 'daybooklaw12.ScanTorn'. -/
def scanTornUptoCard : Claim7 := { stood := { row := scanTornUptoRow, standIns := [], harness := (true, "7e3cb03c149eca23f8bce47b53460941b5cd2970f4142f0012fe110a5c174ac5"), looks := false }, kinds := [], alts := [], laidByText := true, laidKinds := [.data], laidTests := true, laidLooks := .later }
def ScanTornUptoCardSaid : Prop := Claim7.holds Tryd.pinned (.plain (OpenSpec.upto scanTornSpec)) scanTornUptoCard

/-- THE SECOND FORM's CARD OF 'daybooklaw12.ScanBursts'. -/
def scanBurstsUptoCard : Claim7 := { stood := { row := scanBurstsUptoRow, standIns := [], harness := (true, "7e3cb03c149eca23f8bce47b53460941b5cd2970f4142f0012fe110a5c174ac5"), looks := false }, kinds := [], alts := [], laidByText := true, laidKinds := [.data], laidTests := true, laidLooks := .later }
def ScanBurstsUptoCardSaid : Prop := Claim7.holds Tryd.pinned (.plain (OpenSpec.upto scanBurstsSpec)) scanBurstsUptoCard

/-- THE SECOND FORM's CARD OF 'daybooklaw12.ScanJoins'. -/
def scanJoinsUptoCard : Claim7 := { stood := { row := scanJoinsUptoRow, standIns := [], harness := (true, "7e3cb03c149eca23f8bce47b53460941b5cd2970f4142f0012fe110a5c174ac5"), looks := false }, kinds := [], alts := [], laidByText := true, laidKinds := [.data], laidTests := true, laidLooks := .later }
def ScanJoinsUptoCardSaid : Prop := Claim7.holds Tryd.pinned (.plain (OpenSpec.upto scanJoinsSpec)) scanJoinsUptoCard
end Rows
end Go.Proofs.YtkaaabnahpmobaaDoor
