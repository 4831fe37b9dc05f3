/-
  DERIVED. GIVEN WITH THE SEED: THE CARDS: each row of YtfpmlmohmmccjaaDoorRows.lean that lists a variable, with what it lists TIED to the program's text (the seventh form; the later family's looks); each row that meets fmt, with fmt's text TOLD by the authors' own Lean function (tested against real Go, not proved from fmt's source: count such statements apart). THE CARD IS WHAT COUNTS. Prove the row's statement (the work); the ties are given (YtfpmlmohmmccjaaDoorTie.lean); close each card by the builder's one call (the guide's Derived/Test/ToyasCard.lean, 'card_holds'). Laid BY PROGRAM, IN A SANDBOX (cutbox-door.mjs). By AI agents, Wed Nov 11 2026. No macro, syntax, notation, axiom, sorry.
-/
import Derived.Test.YtfpmlmohmmccjaaDoorRows
import GoSem.ClaimSeven
namespace Go.Proofs.YtfpmlmohmmccjaaDoor
namespace Rows

/-- THE TIED CARD OF 'daybooklaw07.UpcastSteps'. -/
def upcastStepsCard : Claim7 := { stood := { row := upcastStepsRow, standIns := [], harness := (true, "0b0c8f7998fd2d64991733ae506b08a6a6b490e636916475d1c6575e87ecd1f0"), looks := false }, kinds := [], alts := [], laidByText := true, laidKinds := [.data], laidTests := true, laidLooks := .later }
def UpcastStepsCardSaid : Prop := Claim7.holds Tryd.pinned (.plain (OpenSpec.ofChange upcastStepsSpec)) upcastStepsCard

/-- THE TIED CARD OF 'daybooklaw07.UpcastMoney'. -/
def upcastMoneyCard : Claim7 := { stood := { row := upcastMoneyRow, standIns := [], harness := (true, "0b0c8f7998fd2d64991733ae506b08a6a6b490e636916475d1c6575e87ecd1f0"), looks := false }, kinds := [], alts := [], laidByText := true, laidKinds := [.data], laidTests := true, laidLooks := .later }
def UpcastMoneyCardSaid : Prop := Claim7.holds Tryd.pinned (.plain (OpenSpec.ofChange upcastMoneySpec)) upcastMoneyCard

/-- THE TIED CARD OF 'daybooklaw07.UpcastTos'. -/
def upcastTosCard : Claim7 := { stood := { row := upcastTosRow, standIns := [], harness := (true, "0b0c8f7998fd2d64991733ae506b08a6a6b490e636916475d1c6575e87ecd1f0"), looks := false }, kinds := [], alts := [], laidByText := true, laidKinds := [.data], laidTests := true, laidLooks := .later }
def UpcastTosCardSaid : Prop := Claim7.holds Tryd.pinned (.plain (OpenSpec.ofChange upcastTosSpec)) upcastTosCard

/-- THE TIED CARD OF 'daybooklaw07.UpcastValid'. -/
def upcastValidCard : Claim7 := { stood := { row := upcastValidRow, standIns := [], harness := (true, "0b0c8f7998fd2d64991733ae506b08a6a6b490e636916475d1c6575e87ecd1f0"), looks := false }, kinds := [], alts := [], laidByText := true, laidKinds := [.data], laidTests := true, laidLooks := .later }
def UpcastValidCardSaid : Prop := Claim7.holds Tryd.pinned (.plain (OpenSpec.ofChange upcastValidSpec)) upcastValidCard

/-- THE TIED CARD OF 'daybooklaw07.UpcastTwo'. -/
def upcastTwoCard : Claim7 := { stood := { row := upcastTwoRow, standIns := [], harness := (true, "0b0c8f7998fd2d64991733ae506b08a6a6b490e636916475d1c6575e87ecd1f0"), looks := false }, kinds := [], alts := [], laidByText := true, laidKinds := [.data], laidTests := true, laidLooks := .later }
def UpcastTwoCardSaid : Prop := Claim7.holds Tryd.pinned (.plain (OpenSpec.ofChange upcastTwoSpec)) upcastTwoCard

/-- THE SECOND FORM's CARD OF 'daybooklaw07.UpcastSteps'. -/
def upcastStepsUptoCard : Claim7 := { stood := { row := upcastStepsUptoRow, standIns := [], harness := (true, "0b0c8f7998fd2d64991733ae506b08a6a6b490e636916475d1c6575e87ecd1f0"), looks := false }, kinds := [], alts := [], laidByText := true, laidKinds := [.data], laidTests := true, laidLooks := .later }
def UpcastStepsUptoCardSaid : Prop := Claim7.holds Tryd.pinned (.plain (OpenSpec.upto upcastStepsSpec)) upcastStepsUptoCard

/-- THE SECOND FORM's CARD OF 'daybooklaw07.UpcastMoney'. -/
def upcastMoneyUptoCard : Claim7 := { stood := { row := upcastMoneyUptoRow, standIns := [], harness := (true, "0b0c8f7998fd2d64991733ae506b08a6a6b490e636916475d1c6575e87ecd1f0"), looks := false }, kinds := [], alts := [], laidByText := true, laidKinds := [.data], laidTests := true, laidLooks := .later }
def UpcastMoneyUptoCardSaid : Prop := Claim7.holds Tryd.pinned (.plain (OpenSpec.upto upcastMoneySpec)) upcastMoneyUptoCard

/-- THE SECOND FORM's CARD OF 'daybooklaw07.UpcastTos'. -/
def upcastTosUptoCard : Claim7 := { stood := { row := upcastTosUptoRow, standIns := [], harness := (true, "0b0c8f7998fd2d64991733ae506b08a6a6b490e636916475d1c6575e87ecd1f0"), looks := false }, kinds := [], alts := [], laidByText := true, laidKinds := [.data], laidTests := true, laidLooks := .later }
def UpcastTosUptoCardSaid : Prop := Claim7.holds Tryd.pinned (.plain (OpenSpec.upto upcastTosSpec)) upcastTosUptoCard

/-- THE SECOND FORM's CARD OF 'daybooklaw07.UpcastValid'. -/
def upcastValidUptoCard : Claim7 := { stood := { row := upcastValidUptoRow, standIns := [], harness := (true, "0b0c8f7998fd2d64991733ae506b08a6a6b490e636916475d1c6575e87ecd1f0"), looks := false }, kinds := [], alts := [], laidByText := true, laidKinds := [.data], laidTests := true, laidLooks := .later }
def UpcastValidUptoCardSaid : Prop := Claim7.holds Tryd.pinned (.plain (OpenSpec.upto upcastValidSpec)) upcastValidUptoCard

/-- THE SECOND FORM's CARD OF 'daybooklaw07.UpcastTwo'. -/
def upcastTwoUptoCard : Claim7 := { stood := { row := upcastTwoUptoRow, standIns := [], harness := (true, "0b0c8f7998fd2d64991733ae506b08a6a6b490e636916475d1c6575e87ecd1f0"), looks := false }, kinds := [], alts := [], laidByText := true, laidKinds := [.data], laidTests := true, laidLooks := .later }
def UpcastTwoUptoCardSaid : Prop := Claim7.holds Tryd.pinned (.plain (OpenSpec.upto upcastTwoSpec)) upcastTwoUptoCard
end Rows
end Go.Proofs.YtfpmlmohmmccjaaDoor
