/-
  DERIVED. GIVEN WITH THE SEED: THE CARDS: each row of YtdcifghlgeiobaaDoorRows.lean that lists a variable, with what it lists TIED to the program's text (the seventh form; the later family's looks); each row that meets fmt, with fmt's text TOLD by the authors' own Lean function (tested against real Go, not proved from fmt's source: count such statements apart). THE CARD IS WHAT COUNTS. Prove the row's statement (the work); the ties are given (YtdcifghlgeiobaaDoorTie.lean); close each card by the builder's one call (the guide's Derived/Test/ToyasCard.lean, 'card_holds'). Laid BY PROGRAM, IN A SANDBOX (cutbox-door.mjs). By AI agents, Wed Nov 11 2026. No macro, syntax, notation, axiom, sorry.
-/
import Derived.Test.YtdcifghlgeiobaaDoorRows
import GoSem.ClaimSeven
namespace Go.Proofs.YtdcifghlgeiobaaDoor
namespace Rows

/-- THE TIED CARD OF 'daybooklaw03.CrcSums'. -/
def crcSumsCard : Claim7 := { stood := { row := crcSumsRow, standIns := [], harness := (true, "822e0bca1a65fe31ab6a5edf67410bf6c7a219a2f07f08a7b2da06f5452226af"), looks := false }, kinds := [], alts := [], laidByText := true, laidKinds := [.data], laidTests := true, laidLooks := .later }
def CrcSumsCardSaid : Prop := Claim7.holds Tryd.pinned (.plain (OpenSpec.ofChange crcSumsSpec)) crcSumsCard

/-- THE TIED CARD OF 'daybooklaw03.CrcPieces'. -/
def crcPiecesCard : Claim7 := { stood := { row := crcPiecesRow, standIns := [], harness := (true, "822e0bca1a65fe31ab6a5edf67410bf6c7a219a2f07f08a7b2da06f5452226af"), looks := false }, kinds := [], alts := [], laidByText := true, laidKinds := [.data], laidTests := true, laidLooks := .later }
def CrcPiecesCardSaid : Prop := Claim7.holds Tryd.pinned (.plain (OpenSpec.ofChange crcPiecesSpec)) crcPiecesCard

/-- THE TIED CARD OF 'daybooklaw03.CrcLinear'. -/
def crcLinearCard : Claim7 := { stood := { row := crcLinearRow, standIns := [], harness := (true, "822e0bca1a65fe31ab6a5edf67410bf6c7a219a2f07f08a7b2da06f5452226af"), looks := false }, kinds := [], alts := [], laidByText := true, laidKinds := [.data], laidTests := true, laidLooks := .later }
def CrcLinearCardSaid : Prop := Claim7.holds Tryd.pinned (.plain (OpenSpec.ofChange crcLinearSpec)) crcLinearCard

/-- THE TIED CARD OF 'daybooklaw03.CrcFours'. -/
def crcFoursCard : Claim7 := { stood := { row := crcFoursRow, standIns := [], harness := (true, "822e0bca1a65fe31ab6a5edf67410bf6c7a219a2f07f08a7b2da06f5452226af"), looks := false }, kinds := [], alts := [], laidByText := true, laidKinds := [.data], laidTests := true, laidLooks := .later }
def CrcFoursCardSaid : Prop := Claim7.holds Tryd.pinned (.plain (OpenSpec.ofChange crcFoursSpec)) crcFoursCard

/-- THE TIED CARD OF 'daybooklaw03.CrcBursts'. -/
def crcBurstsCard : Claim7 := { stood := { row := crcBurstsRow, standIns := [], harness := (true, "822e0bca1a65fe31ab6a5edf67410bf6c7a219a2f07f08a7b2da06f5452226af"), looks := false }, kinds := [], alts := [], laidByText := true, laidKinds := [.data], laidTests := true, laidLooks := .later }
def CrcBurstsCardSaid : Prop := Claim7.holds Tryd.pinned (.plain (OpenSpec.ofChange crcBurstsSpec)) crcBurstsCard

/-- THE TIED CARD OF 'daybooklaw03.CrcDigests'. -/
def crcDigestsCard : Claim7 := { stood := { row := crcDigestsRow, standIns := [], harness := (true, "822e0bca1a65fe31ab6a5edf67410bf6c7a219a2f07f08a7b2da06f5452226af"), looks := false }, kinds := [], alts := [], laidByText := true, laidKinds := [.data], laidTests := true, laidLooks := .later }
def CrcDigestsCardSaid : Prop := Claim7.holds Tryd.pinned (.plain (OpenSpec.ofChange crcDigestsSpec)) crcDigestsCard

/-- THE TIED CARD OF 'daybooklaw03.CrcCombines'. -/
def crcCombinesCard : Claim7 := { stood := { row := crcCombinesRow, standIns := [], harness := (true, "822e0bca1a65fe31ab6a5edf67410bf6c7a219a2f07f08a7b2da06f5452226af"), looks := false }, kinds := [], alts := [], laidByText := true, laidKinds := [.data], laidTests := true, laidLooks := .later }
def CrcCombinesCardSaid : Prop := Claim7.holds Tryd.pinned (.plain (OpenSpec.ofChange crcCombinesSpec)) crcCombinesCard

/-- THE TIED CARD OF 'daybooklaw03.CrcFar'. -/
def crcFarCard : Claim7 := { stood := { row := crcFarRow, standIns := [], harness := (true, "822e0bca1a65fe31ab6a5edf67410bf6c7a219a2f07f08a7b2da06f5452226af"), looks := false }, kinds := [], alts := [], laidByText := true, laidKinds := [.data], laidTests := true, laidLooks := .later }
def CrcFarCardSaid : Prop := Claim7.holds Tryd.pinned (.plain (OpenSpec.ofChange crcFarSpec)) crcFarCard

/-- THE SECOND FORM's CARD OF 'daybooklaw03.CrcSums'. -/
def crcSumsUptoCard : Claim7 := { stood := { row := crcSumsUptoRow, standIns := [], harness := (true, "822e0bca1a65fe31ab6a5edf67410bf6c7a219a2f07f08a7b2da06f5452226af"), looks := false }, kinds := [], alts := [], laidByText := true, laidKinds := [.data], laidTests := true, laidLooks := .later }
def CrcSumsUptoCardSaid : Prop := Claim7.holds Tryd.pinned (.plain (OpenSpec.upto crcSumsSpec)) crcSumsUptoCard

/-- THE SECOND FORM's CARD OF 'daybooklaw03.CrcPieces'. -/
def crcPiecesUptoCard : Claim7 := { stood := { row := crcPiecesUptoRow, standIns := [], harness := (true, "822e0bca1a65fe31ab6a5edf67410bf6c7a219a2f07f08a7b2da06f5452226af"), looks := false }, kinds := [], alts := [], laidByText := true, laidKinds := [.data], laidTests := true, laidLooks := .later }
def CrcPiecesUptoCardSaid : Prop := Claim7.holds Tryd.pinned (.plain (OpenSpec.upto crcPiecesSpec)) crcPiecesUptoCard

/-- THE SECOND FORM's CARD OF 'daybooklaw03.CrcLinear'. -/
def crcLinearUptoCard : Claim7 := { stood := { row := crcLinearUptoRow, standIns := [], harness := (true, "822e0bca1a65fe31ab6a5edf67410bf6c7a219a2f07f08a7b2da06f5452226af"), looks := false }, kinds := [], alts := [], laidByText := true, laidKinds := [.data], laidTests := true, laidLooks := .later }
def CrcLinearUptoCardSaid : Prop := Claim7.holds Tryd.pinned (.plain (OpenSpec.upto crcLinearSpec)) crcLinearUptoCard

/-- THE SECOND FORM's CARD OF 'daybooklaw03.CrcFours'. -/
def crcFoursUptoCard : Claim7 := { stood := { row := crcFoursUptoRow, standIns := [], harness := (true, "822e0bca1a65fe31ab6a5edf67410bf6c7a219a2f07f08a7b2da06f5452226af"), looks := false }, kinds := [], alts := [], laidByText := true, laidKinds := [.data], laidTests := true, laidLooks := .later }
def CrcFoursUptoCardSaid : Prop := Claim7.holds Tryd.pinned (.plain (OpenSpec.upto crcFoursSpec)) crcFoursUptoCard

/-- THE SECOND FORM's CARD OF 'daybooklaw03.CrcBursts'. -/
def crcBurstsUptoCard : Claim7 := { stood := { row := crcBurstsUptoRow, standIns := [], harness := (true, "822e0bca1a65fe31ab6a5edf67410bf6c7a219a2f07f08a7b2da06f5452226af"), looks := false }, kinds := [], alts := [], laidByText := true, laidKinds := [.data], laidTests := true, laidLooks := .later }
def CrcBurstsUptoCardSaid : Prop := Claim7.holds Tryd.pinned (.plain (OpenSpec.upto crcBurstsSpec)) crcBurstsUptoCard

/-- THE SECOND FORM's CARD OF 'daybooklaw03.CrcDigests'. -/
def crcDigestsUptoCard : Claim7 := { stood := { row := crcDigestsUptoRow, standIns := [], harness := (true, "822e0bca1a65fe31ab6a5edf67410bf6c7a219a2f07f08a7b2da06f5452226af"), looks := false }, kinds := [], alts := [], laidByText := true, laidKinds := [.data], laidTests := true, laidLooks := .later }
def CrcDigestsUptoCardSaid : Prop := Claim7.holds Tryd.pinned (.plain (OpenSpec.upto crcDigestsSpec)) crcDigestsUptoCard

/-- THE SECOND FORM's CARD OF 'daybooklaw03.CrcCombines'. -/
def crcCombinesUptoCard : Claim7 := { stood := { row := crcCombinesUptoRow, standIns := [], harness := (true, "822e0bca1a65fe31ab6a5edf67410bf6c7a219a2f07f08a7b2da06f5452226af"), looks := false }, kinds := [], alts := [], laidByText := true, laidKinds := [.data], laidTests := true, laidLooks := .later }
def CrcCombinesUptoCardSaid : Prop := Claim7.holds Tryd.pinned (.plain (OpenSpec.upto crcCombinesSpec)) crcCombinesUptoCard

/-- THE SECOND FORM's CARD OF 'daybooklaw03.CrcFar'. -/
def crcFarUptoCard : Claim7 := { stood := { row := crcFarUptoRow, standIns := [], harness := (true, "822e0bca1a65fe31ab6a5edf67410bf6c7a219a2f07f08a7b2da06f5452226af"), looks := false }, kinds := [], alts := [], laidByText := true, laidKinds := [.data], laidTests := true, laidLooks := .later }
def CrcFarUptoCardSaid : Prop := Claim7.holds Tryd.pinned (.plain (OpenSpec.upto crcFarSpec)) crcFarUptoCard
end Rows
end Go.Proofs.YtdcifghlgeiobaaDoor
