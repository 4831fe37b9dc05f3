/-
  NARROWER THAN 'FOR EVERY INPUT', by the rows' own cells (each row's printed sentence says how): SegmentScans: laid · SegmentTorn: laid · SegmentSeals: laid · SegmentBursts: laid · SegmentCloses: laid · SegmentWhole: laid.
  DERIVED. THE GIVEN ROWS OF THIS SEAT. 6 by the template 'for every input the law returns true; each argument reads behind the call as it read before'; 0 by the template 'total and deterministic' (their statements: YtffhejaeliphcaaDoorTotals.lean).
  GIVEN WITH THE SEED: the statements are not yours to turn. If you find one false, say at which input.
  Laid BY PROGRAM, IN A SANDBOX (cutbox-rows.mjs): the forced cells as the released guide's own fill.sh prints them over the translation a2b09ee0c3fc116b… (all of the seat's roots in one cut). By AI agents, Wed Nov 11 2026. No macro, syntax, notation, axiom, sorry.
-/
import Derived.Test.YtffhejaeliphcaaDoorChecked
import GoSem.Claim
import GoSem.ClaimJoined
import GoSem.ClaimMapViews
import Derived.JoinedTies
import Derived.KernelRfl
namespace Go.Proofs.YtffhejaeliphcaaDoor
/- THE CELL 'sum', in the pinned program and in every row, IS THE sha256 OF THE DUMP (.gsa) THAT YtffhejaeliphcaaDoorProg.lean LOADS. Nothing in Lean hashes anything: it is a label: what it is worth is what the hold of that sum in a sandbox is worth. -/
noncomputable def Tryd.pinned : Pinned := { name := "ytffhejaeliphcaadoor", sum := "a2b09ee0c3fc116b40dd768e545318031f0a165a5e7bf0a0d8715e04f7e32d95", checked := Tryd.checked }
namespace Rows
def none {H : Type} : Left H := { results := [], args := [] }

/- WHAT THE LISTED PACKAGE-LEVEL VARIABLES READ AS WHEN THE CALL BEGINS. Each datum BY PROGRAM (the guide's laid-datum.mjs) off the statement by which the dump's own 'gosem.cut.vars' lays the variable. In a bare row this is a premise. The card (YtffhejaeliphcaaDoorCards.lean) ties it to the program's text. -/
def laid_daybook_crc_nibbles {H : Type} : DataW H := .agg [.lit (.int .u32 0), .lit (.int .u32 498536548), .lit (.int .u32 997073096), .lit (.int .u32 651767980), .lit (.int .u32 1994146192), .lit (.int .u32 1802195444), .lit (.int .u32 1303535960), .lit (.int .u32 1342533948), .lit (.int .u32 3988292384), .lit (.int .u32 4027552580), .lit (.int .u32 3604390888), .lit (.int .u32 3412177804), .lit (.int .u32 2607071920), .lit (.int .u32 2262029012), .lit (.int .u32 2685067896), .lit (.int .u32 3183342108)]

/-- 'daybooklaw14.SegmentScans': WHATEVER THE INPUT: true; the input reads as it did. -/
def segmentScansSpec : ChangeSpec := { name := "segmentScans", fn := fun _ => fun
  | [d] => { results := [.lit (.bool true)], args := [d] }
  | _ => none }
def segmentScansRow : OpenClaim := { program := "ytffhejaeliphcaadoor", sum := "a2b09ee0c3fc116b40dd768e545318031f0a165a5e7bf0a0d8715e04f7e32d95", func := "daybook/daybooklaw14.SegmentScans", spec := "segmentScans", unfollowed := true, recurses := true, named := ["daybook/crc.nibbles"], apart := false, laid := [("daybook/crc.nibbles", laid_daybook_crc_nibbles)] }
def SegmentScansSaid : Prop := segmentScansRow.holds Tryd.pinned (OpenSpec.ofChange segmentScansSpec)

/-- ITS FALSE NEIGHBOUR: 'it returns false'. Refute it at one input. -/
def segmentScansWrong : ChangeSpec := { name := "segmentScans", fn := fun _ => fun
  | [d] => { results := [.lit (.bool false)], args := [d] }
  | _ => none }
def SegmentScansWrongFalsely : Prop := segmentScansRow.holds Tryd.pinned (OpenSpec.ofChange segmentScansWrong)

/-- 'daybooklaw14.SegmentTorn': WHATEVER THE INPUT: true; the input reads as it did. -/
def segmentTornSpec : ChangeSpec := { name := "segmentTorn", fn := fun _ => fun
  | [d1, d2, d3, d4] => { results := [.lit (.bool true)], args := [d1, d2, d3, d4] }
  | _ => none }
def segmentTornRow : OpenClaim := { program := "ytffhejaeliphcaadoor", sum := "a2b09ee0c3fc116b40dd768e545318031f0a165a5e7bf0a0d8715e04f7e32d95", func := "daybook/daybooklaw14.SegmentTorn", spec := "segmentTorn", unfollowed := true, recurses := true, named := ["daybook/crc.nibbles"], apart := false, laid := [("daybook/crc.nibbles", laid_daybook_crc_nibbles)] }
def SegmentTornSaid : Prop := segmentTornRow.holds Tryd.pinned (OpenSpec.ofChange segmentTornSpec)

/-- ITS FALSE NEIGHBOUR: 'it returns false'. Refute it at one input. -/
def segmentTornWrong : ChangeSpec := { name := "segmentTorn", fn := fun _ => fun
  | [d1, d2, d3, d4] => { results := [.lit (.bool false)], args := [d1, d2, d3, d4] }
  | _ => none }
def SegmentTornWrongFalsely : Prop := segmentTornRow.holds Tryd.pinned (OpenSpec.ofChange segmentTornWrong)

/-- 'daybooklaw14.SegmentSeals': WHATEVER THE INPUT: true; the input reads as it did. -/
def segmentSealsSpec : ChangeSpec := { name := "segmentSeals", fn := fun _ => fun
  | [d1, d2] => { results := [.lit (.bool true)], args := [d1, d2] }
  | _ => none }
def segmentSealsRow : OpenClaim := { program := "ytffhejaeliphcaadoor", sum := "a2b09ee0c3fc116b40dd768e545318031f0a165a5e7bf0a0d8715e04f7e32d95", func := "daybook/daybooklaw14.SegmentSeals", spec := "segmentSeals", unfollowed := true, recurses := true, named := ["daybook/crc.nibbles"], apart := false, laid := [("daybook/crc.nibbles", laid_daybook_crc_nibbles)] }
def SegmentSealsSaid : Prop := segmentSealsRow.holds Tryd.pinned (OpenSpec.ofChange segmentSealsSpec)

/-- ITS FALSE NEIGHBOUR: 'it returns false'. Refute it at one input. -/
def segmentSealsWrong : ChangeSpec := { name := "segmentSeals", fn := fun _ => fun
  | [d1, d2] => { results := [.lit (.bool false)], args := [d1, d2] }
  | _ => none }
def SegmentSealsWrongFalsely : Prop := segmentSealsRow.holds Tryd.pinned (OpenSpec.ofChange segmentSealsWrong)

/-- 'daybooklaw14.SegmentBursts': WHATEVER THE INPUT: true; the input reads as it did. -/
def segmentBurstsSpec : ChangeSpec := { name := "segmentBursts", fn := fun _ => fun
  | [d1, d2, d3, d4, d5, d6] => { results := [.lit (.bool true)], args := [d1, d2, d3, d4, d5, d6] }
  | _ => none }
def segmentBurstsRow : OpenClaim := { program := "ytffhejaeliphcaadoor", sum := "a2b09ee0c3fc116b40dd768e545318031f0a165a5e7bf0a0d8715e04f7e32d95", func := "daybook/daybooklaw14.SegmentBursts", spec := "segmentBursts", unfollowed := true, recurses := true, named := ["daybook/crc.nibbles"], apart := false, laid := [("daybook/crc.nibbles", laid_daybook_crc_nibbles)] }
def SegmentBurstsSaid : Prop := segmentBurstsRow.holds Tryd.pinned (OpenSpec.ofChange segmentBurstsSpec)

/-- ITS FALSE NEIGHBOUR: 'it returns false'. Refute it at one input. -/
def segmentBurstsWrong : ChangeSpec := { name := "segmentBursts", fn := fun _ => fun
  | [d1, d2, d3, d4, d5, d6] => { results := [.lit (.bool false)], args := [d1, d2, d3, d4, d5, d6] }
  | _ => none }
def SegmentBurstsWrongFalsely : Prop := segmentBurstsRow.holds Tryd.pinned (OpenSpec.ofChange segmentBurstsWrong)

/-- 'daybooklaw14.SegmentCloses': WHATEVER THE INPUT: true; the input reads as it did. -/
def segmentClosesSpec : ChangeSpec := { name := "segmentCloses", fn := fun _ => fun
  | [d1, d2] => { results := [.lit (.bool true)], args := [d1, d2] }
  | _ => none }
def segmentClosesRow : OpenClaim := { program := "ytffhejaeliphcaadoor", sum := "a2b09ee0c3fc116b40dd768e545318031f0a165a5e7bf0a0d8715e04f7e32d95", func := "daybook/daybooklaw14.SegmentCloses", spec := "segmentCloses", unfollowed := true, recurses := true, named := ["daybook/crc.nibbles"], apart := false, laid := [("daybook/crc.nibbles", laid_daybook_crc_nibbles)] }
def SegmentClosesSaid : Prop := segmentClosesRow.holds Tryd.pinned (OpenSpec.ofChange segmentClosesSpec)

/-- ITS FALSE NEIGHBOUR: 'it returns false'. Refute it at one input. -/
def segmentClosesWrong : ChangeSpec := { name := "segmentCloses", fn := fun _ => fun
  | [d1, d2] => { results := [.lit (.bool false)], args := [d1, d2] }
  | _ => none }
def SegmentClosesWrongFalsely : Prop := segmentClosesRow.holds Tryd.pinned (OpenSpec.ofChange segmentClosesWrong)

/-- 'daybooklaw14.SegmentWhole': WHATEVER THE INPUT: true; the input reads as it did. -/
def segmentWholeSpec : ChangeSpec := { name := "segmentWhole", fn := fun _ => fun
  | [d1, d2, d3, d4, d5] => { results := [.lit (.bool true)], args := [d1, d2, d3, d4, d5] }
  | _ => none }
def segmentWholeRow : OpenClaim := { program := "ytffhejaeliphcaadoor", sum := "a2b09ee0c3fc116b40dd768e545318031f0a165a5e7bf0a0d8715e04f7e32d95", func := "daybook/daybooklaw14.SegmentWhole", spec := "segmentWhole", unfollowed := true, recurses := true, named := ["daybook/crc.nibbles"], apart := false, laid := [("daybook/crc.nibbles", laid_daybook_crc_nibbles)] }
def SegmentWholeSaid : Prop := segmentWholeRow.holds Tryd.pinned (OpenSpec.ofChange segmentWholeSpec)

/-- ITS FALSE NEIGHBOUR: 'it returns false'. Refute it at one input. -/
def segmentWholeWrong : ChangeSpec := { name := "segmentWhole", fn := fun _ => fun
  | [d1, d2, d3, d4, d5] => { results := [.lit (.bool false)], args := [d1, d2, d3, d4, d5] }
  | _ => none }
def SegmentWholeWrongFalsely : Prop := segmentWholeRow.holds Tryd.pinned (OpenSpec.ofChange segmentWholeWrong)

/- THE SECOND FORM. 'bulk': how many values and letters a reading holds, each counted each time it is reached (what is shared counts as often as it is met; a slice's spare places count too). A statement '..UptoSaid' is the law's where the arguments, and the package variables that the reading takes, are together of bulk at most 1048576: NARROWER than '..Said'. Prove '..Said' where nothing that the law and all that it calls make is longer than what came in: it says more and counts as full. Else prove '..UptoSaid'. A law counts once. -/
mutual
def uptoBulk {H : Type} : DataW H → Nat
  | .lit (.string bytes) => bytes.length + 1
  | .lit _ => 1
  | .nil => 1
  | .ptr d => uptoBulk d + 1
  | .slice elems spare => uptoBulkAll elems + uptoBulkAll spare + 1
  | .agg parts => uptoBulkAll parts + 1
  | .iface _ d => uptoBulk d + 1
  | .map entries => uptoBulkEntries entries + 1
  | .held _ => 1
def uptoBulkAll {H : Type} : List (DataW H) → Nat
  | [] => 0
  | d :: r => uptoBulk d + uptoBulkAll r
def uptoBulkEntries {H : Type} : List (Lit × DataW H) → Nat
  | [] => 0
  | x :: r => uptoBulkEntry x + uptoBulkEntries r
def uptoBulkEntry {H : Type} : Lit × DataW H → Nat
  | (.string bytes, d) => bytes.length + uptoBulk d + 1
  | (_, d) => uptoBulk d + 1
 end
def uptoSmall : (H : Type) → List (DataW H) → Bool := fun _ ds => decide (uptoBulkAll ds ≤ 1048576)
def OpenSpec.upto (s : _root_.Go.ChangeSpec) : _root_.Go.OpenSpec := { _root_.Go.OpenSpec.ofChange s with cond := some uptoSmall }

/-- 'daybooklaw14.SegmentScans', WHERE WHAT IT READS IS OF BULK AT MOST 1048576: true; the input reads as it did. -/
def segmentScansUptoRow : OpenClaim := { program := "ytffhejaeliphcaadoor", sum := "a2b09ee0c3fc116b40dd768e545318031f0a165a5e7bf0a0d8715e04f7e32d95", func := "daybook/daybooklaw14.SegmentScans", spec := "segmentScans", unfollowed := true, recurses := true, named := ["daybook/crc.nibbles"], apart := false, laid := [("daybook/crc.nibbles", laid_daybook_crc_nibbles)], narrowed := true }
def SegmentScansUptoSaid : Prop := segmentScansUptoRow.holds Tryd.pinned (OpenSpec.upto segmentScansSpec)

/-- 'daybooklaw14.SegmentTorn', WHERE WHAT IT READS IS OF BULK AT MOST 1048576: true; the input reads as it did. -/
def segmentTornUptoRow : OpenClaim := { program := "ytffhejaeliphcaadoor", sum := "a2b09ee0c3fc116b40dd768e545318031f0a165a5e7bf0a0d8715e04f7e32d95", func := "daybook/daybooklaw14.SegmentTorn", spec := "segmentTorn", unfollowed := true, recurses := true, named := ["daybook/crc.nibbles"], apart := false, laid := [("daybook/crc.nibbles", laid_daybook_crc_nibbles)], narrowed := true }
def SegmentTornUptoSaid : Prop := segmentTornUptoRow.holds Tryd.pinned (OpenSpec.upto segmentTornSpec)

/-- 'daybooklaw14.SegmentSeals', WHERE WHAT IT READS IS OF BULK AT MOST 1048576: true; the input reads as it did. -/
def segmentSealsUptoRow : OpenClaim := { program := "ytffhejaeliphcaadoor", sum := "a2b09ee0c3fc116b40dd768e545318031f0a165a5e7bf0a0d8715e04f7e32d95", func := "daybook/daybooklaw14.SegmentSeals", spec := "segmentSeals", unfollowed := true, recurses := true, named := ["daybook/crc.nibbles"], apart := false, laid := [("daybook/crc.nibbles", laid_daybook_crc_nibbles)], narrowed := true }
def SegmentSealsUptoSaid : Prop := segmentSealsUptoRow.holds Tryd.pinned (OpenSpec.upto segmentSealsSpec)

/-- 'daybooklaw14.SegmentBursts', WHERE WHAT IT READS IS OF BULK AT MOST 1048576: true; the input reads as it did. -/
def segmentBurstsUptoRow : OpenClaim := { program := "ytffhejaeliphcaadoor", sum := "a2b09ee0c3fc116b40dd768e545318031f0a165a5e7bf0a0d8715e04f7e32d95", func := "daybook/daybooklaw14.SegmentBursts", spec := "segmentBursts", unfollowed := true, recurses := true, named := ["daybook/crc.nibbles"], apart := false, laid := [("daybook/crc.nibbles", laid_daybook_crc_nibbles)], narrowed := true }
def SegmentBurstsUptoSaid : Prop := segmentBurstsUptoRow.holds Tryd.pinned (OpenSpec.upto segmentBurstsSpec)

/-- 'daybooklaw14.SegmentCloses', WHERE WHAT IT READS IS OF BULK AT MOST 1048576: true; the input reads as it did. -/
def segmentClosesUptoRow : OpenClaim := { program := "ytffhejaeliphcaadoor", sum := "a2b09ee0c3fc116b40dd768e545318031f0a165a5e7bf0a0d8715e04f7e32d95", func := "daybook/daybooklaw14.SegmentCloses", spec := "segmentCloses", unfollowed := true, recurses := true, named := ["daybook/crc.nibbles"], apart := false, laid := [("daybook/crc.nibbles", laid_daybook_crc_nibbles)], narrowed := true }
def SegmentClosesUptoSaid : Prop := segmentClosesUptoRow.holds Tryd.pinned (OpenSpec.upto segmentClosesSpec)

/-- 'daybooklaw14.SegmentWhole', WHERE WHAT IT READS IS OF BULK AT MOST 1048576: true; the input reads as it did. -/
def segmentWholeUptoRow : OpenClaim := { program := "ytffhejaeliphcaadoor", sum := "a2b09ee0c3fc116b40dd768e545318031f0a165a5e7bf0a0d8715e04f7e32d95", func := "daybook/daybooklaw14.SegmentWhole", spec := "segmentWhole", unfollowed := true, recurses := true, named := ["daybook/crc.nibbles"], apart := false, laid := [("daybook/crc.nibbles", laid_daybook_crc_nibbles)], narrowed := true }
def SegmentWholeUptoSaid : Prop := segmentWholeUptoRow.holds Tryd.pinned (OpenSpec.upto segmentWholeSpec)

end Rows
end Go.Proofs.YtffhejaeliphcaaDoor
