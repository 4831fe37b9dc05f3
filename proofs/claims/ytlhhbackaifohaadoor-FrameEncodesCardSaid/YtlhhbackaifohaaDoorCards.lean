/-
  DERIVED. GIVEN WITH THE SEED: THE CARDS: each row of YtlhhbackaifohaaDoorRows.lean that lists a variable, with what it lists TIED to the program's text (the seventh form; the later family's looks); each row that meets fmt, with fmt's text TOLD by the authors' own Lean function (tested against real Go, not proved from fmt's source: count such statements apart). THE CARD IS WHAT COUNTS. Prove the row's statement (the work); the ties are given (YtlhhbackaifohaaDoorTie.lean); close each card by the builder's one call (the guide's Derived/Test/ToyasCard.lean, 'card_holds'). Laid BY PROGRAM, IN A SANDBOX (cutbox-door.mjs). By AI agents, Wed Nov 11 2026. No macro, syntax, notation, axiom, sorry.
-/
import Derived.Test.YtlhhbackaifohaaDoorRows
import GoSem.ClaimSeven
namespace Go.Proofs.YtlhhbackaifohaaDoor
namespace Rows

/-- THE TIED CARD OF 'daybooklaw11.FrameEncodes'. -/
def frameEncodesCard : Claim7 := { stood := { row := frameEncodesRow, standIns := [], harness := (true, "ba8d9eba9804843f5d041a5ccdb675883fbf936b4c545ecb337ce56aa7e53b5a"), looks := false }, kinds := [], alts := [], laidByText := true, laidKinds := [.data], laidTests := true, laidLooks := .later }
def FrameEncodesCardSaid : Prop := Claim7.holds Tryd.pinned (.plain (OpenSpec.ofChange frameEncodesSpec)) frameEncodesCard

/-- THE TIED CARD OF 'daybooklaw11.FrameDecodes'. -/
def frameDecodesCard : Claim7 := { stood := { row := frameDecodesRow, standIns := [], harness := (true, "ba8d9eba9804843f5d041a5ccdb675883fbf936b4c545ecb337ce56aa7e53b5a"), looks := false }, kinds := [], alts := [], laidByText := true, laidKinds := [.data], laidTests := true, laidLooks := .later }
def FrameDecodesCardSaid : Prop := Claim7.holds Tryd.pinned (.plain (OpenSpec.ofChange frameDecodesSpec)) frameDecodesCard

/-- THE TIED CARD OF 'daybooklaw11.FrameBack'. -/
def frameBackCard : Claim7 := { stood := { row := frameBackRow, standIns := [], harness := (true, "ba8d9eba9804843f5d041a5ccdb675883fbf936b4c545ecb337ce56aa7e53b5a"), looks := false }, kinds := [], alts := [], laidByText := true, laidKinds := [.data], laidTests := true, laidLooks := .later }
def FrameBackCardSaid : Prop := Claim7.holds Tryd.pinned (.plain (OpenSpec.ofChange frameBackSpec)) frameBackCard

/-- THE TIED CARD OF 'daybooklaw11.FrameBursts'. -/
def frameBurstsCard : Claim7 := { stood := { row := frameBurstsRow, standIns := [], harness := (true, "ba8d9eba9804843f5d041a5ccdb675883fbf936b4c545ecb337ce56aa7e53b5a"), looks := false }, kinds := [], alts := [], laidByText := true, laidKinds := [.data], laidTests := true, laidLooks := .later }
def FrameBurstsCardSaid : Prop := Claim7.holds Tryd.pinned (.plain (OpenSpec.ofChange frameBurstsSpec)) frameBurstsCard

/-- THE TIED CARD OF 'daybooklaw11.FrameOneForm'. -/
def frameOneFormCard : Claim7 := { stood := { row := frameOneFormRow, standIns := [], harness := (true, "ba8d9eba9804843f5d041a5ccdb675883fbf936b4c545ecb337ce56aa7e53b5a"), looks := false }, kinds := [], alts := [], laidByText := true, laidKinds := [.data], laidTests := true, laidLooks := .later }
def FrameOneFormCardSaid : Prop := Claim7.holds Tryd.pinned (.plain (OpenSpec.ofChange frameOneFormSpec)) frameOneFormCard

/-- THE TIED CARD OF 'daybooklaw11.FrameWholes'. -/
def frameWholesCard : Claim7 := { stood := { row := frameWholesRow, standIns := [], harness := (true, "ba8d9eba9804843f5d041a5ccdb675883fbf936b4c545ecb337ce56aa7e53b5a"), looks := false }, kinds := [], alts := [], laidByText := true, laidKinds := [.data], laidTests := true, laidLooks := .later }
def FrameWholesCardSaid : Prop := Claim7.holds Tryd.pinned (.plain (OpenSpec.ofChange frameWholesSpec)) frameWholesCard

/-- THE SECOND FORM's CARD OF 'daybooklaw11.FrameEncodes'. -/
def frameEncodesUptoCard : Claim7 := { stood := { row := frameEncodesUptoRow, standIns := [], harness := (true, "ba8d9eba9804843f5d041a5ccdb675883fbf936b4c545ecb337ce56aa7e53b5a"), looks := false }, kinds := [], alts := [], laidByText := true, laidKinds := [.data], laidTests := true, laidLooks := .later }
def FrameEncodesUptoCardSaid : Prop := Claim7.holds Tryd.pinned (.plain (OpenSpec.upto frameEncodesSpec)) frameEncodesUptoCard

/-- THE SECOND FORM's CARD OF 'daybooklaw11.FrameDecodes'. -/
def frameDecodesUptoCard : Claim7 := { stood := { row := frameDecodesUptoRow, standIns := [], harness := (true, "ba8d9eba9804843f5d041a5ccdb675883fbf936b4c545ecb337ce56aa7e53b5a"), looks := false }, kinds := [], alts := [], laidByText := true, laidKinds := [.data], laidTests := true, laidLooks := .later }
def FrameDecodesUptoCardSaid : Prop := Claim7.holds Tryd.pinned (.plain (OpenSpec.upto frameDecodesSpec)) frameDecodesUptoCard

/-- THE SECOND FORM's CARD OF 'daybooklaw11.FrameBack'. -/
def frameBackUptoCard : Claim7 := { stood := { row := frameBackUptoRow, standIns := [], harness := (true, "ba8d9eba9804843f5d041a5ccdb675883fbf936b4c545ecb337ce56aa7e53b5a"), looks := false }, kinds := [], alts := [], laidByText := true, laidKinds := [.data], laidTests := true, laidLooks := .later }
def FrameBackUptoCardSaid : Prop := Claim7.holds Tryd.pinned (.plain (OpenSpec.upto frameBackSpec)) frameBackUptoCard

/-- THE SECOND FORM's CARD OF 'daybooklaw11.FrameBursts'. -/
def frameBurstsUptoCard : Claim7 := { stood := { row := frameBurstsUptoRow, standIns := [], harness := (true, "ba8d9eba9804843f5d041a5ccdb675883fbf936b4c545ecb337ce56aa7e53b5a"), looks := false }, kinds := [], alts := [], laidByText := true, laidKinds := [.data], laidTests := true, laidLooks := .later }
def FrameBurstsUptoCardSaid : Prop := Claim7.holds Tryd.pinned (.plain (OpenSpec.upto frameBurstsSpec)) frameBurstsUptoCard

/-- THE SECOND FORM's CARD OF 'daybooklaw11.FrameOneForm'. -/
def frameOneFormUptoCard : Claim7 := { stood := { row := frameOneFormUptoRow, standIns := [], harness := (true, "ba8d9eba9804843f5d041a5ccdb675883fbf936b4c545ecb337ce56aa7e53b5a"), looks := false }, kinds := [], alts := [], laidByText := true, laidKinds := [.data], laidTests := true, laidLooks := .later }
def FrameOneFormUptoCardSaid : Prop := Claim7.holds Tryd.pinned (.plain (OpenSpec.upto frameOneFormSpec)) frameOneFormUptoCard

/-- THE SECOND FORM's CARD OF 'daybooklaw11.FrameWholes'. -/
def frameWholesUptoCard : Claim7 := { stood := { row := frameWholesUptoRow, standIns := [], harness := (true, "ba8d9eba9804843f5d041a5ccdb675883fbf936b4c545ecb337ce56aa7e53b5a"), looks := false }, kinds := [], alts := [], laidByText := true, laidKinds := [.data], laidTests := true, laidLooks := .later }
def FrameWholesUptoCardSaid : Prop := Claim7.holds Tryd.pinned (.plain (OpenSpec.upto frameWholesSpec)) frameWholesUptoCard
end Rows
end Go.Proofs.YtlhhbackaifohaaDoor
