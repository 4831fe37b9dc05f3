/-
  NARROWER THAN 'FOR EVERY INPUT', by the rows' own cells (each row's printed sentence says how): ScanAlls: laid · ScanEach: laid · ScanRuns: laid · ScanTorn: laid · ScanBursts: laid · ScanJoins: laid.
  DERIVED. THE GIVEN ROWS OF THIS SEAT. 6 by the template 'for every input the law returns true; each argument reads behind the call as it read before'; 0 by the template 'total and deterministic' (their statements: YtkaaabnahpmobaaDoorTotals.lean).
  GIVEN WITH THE SEED: the statements are not yours to turn. If you find one false, say at which input.
  Laid BY PROGRAM, IN A SANDBOX (cutbox-rows.mjs): the forced cells as the released guide's own fill.sh prints them over the translation c3c9a0361bb8d369… (all of the seat's roots in one cut). By AI agents, Wed Nov 11 2026. No macro, syntax, notation, axiom, sorry.
-/
import Derived.Test.YtkaaabnahpmobaaDoorChecked
import GoSem.Claim
import GoSem.ClaimJoined
import GoSem.ClaimMapViews
import Derived.JoinedTies
import Derived.KernelRfl
namespace Go.Proofs.YtkaaabnahpmobaaDoor
/- THE CELL 'sum', in the pinned program and in every row, IS THE sha256 OF THE DUMP (.gsa) THAT YtkaaabnahpmobaaDoorProg.lean LOADS. Nothing in Lean hashes anything: it is a label: what it is worth is what the hold of that sum in a sandbox is worth. -/
noncomputable def Tryd.pinned : Pinned := { name := "ytkaaabnahpmobaadoor", sum := "c3c9a0361bb8d3691e17bc8186e1f59b84fd004bc5acf0c1db58301188f821d2", checked := Tryd.checked }
namespace Rows
def none {H : Type} : Left H := { results := [], args := [] }

/- WHAT THE LISTED PACKAGE-LEVEL VARIABLES READ AS WHEN THE CALL BEGINS. Each datum BY PROGRAM (the guide's laid-datum.mjs) off the statement by which the dump's own 'gosem.cut.vars' lays the variable. In a bare row this is a premise. The card (YtkaaabnahpmobaaDoorCards.lean) ties it to the program's text. -/
def laid_daybook_crc_nibbles {H : Type} : DataW H := .agg [.lit (.int .u32 0), .lit (.int .u32 498536548), .lit (.int .u32 997073096), .lit (.int .u32 651767980), .lit (.int .u32 1994146192), .lit (.int .u32 1802195444), .lit (.int .u32 1303535960), .lit (.int .u32 1342533948), .lit (.int .u32 3988292384), .lit (.int .u32 4027552580), .lit (.int .u32 3604390888), .lit (.int .u32 3412177804), .lit (.int .u32 2607071920), .lit (.int .u32 2262029012), .lit (.int .u32 2685067896), .lit (.int .u32 3183342108)]

/-- 'daybooklaw12.ScanAlls': WHATEVER THE INPUT: true; the input reads as it did. -/
def scanAllsSpec : ChangeSpec := { name := "scanAlls", fn := fun _ => fun
  | [d] => { results := [.lit (.bool true)], args := [d] }
  | _ => none }
def scanAllsRow : OpenClaim := { program := "ytkaaabnahpmobaadoor", sum := "c3c9a0361bb8d3691e17bc8186e1f59b84fd004bc5acf0c1db58301188f821d2", func := "daybook/daybooklaw12.ScanAlls", spec := "scanAlls", unfollowed := true, recurses := true, named := ["daybook/crc.nibbles"], apart := false, laid := [("daybook/crc.nibbles", laid_daybook_crc_nibbles)] }
def ScanAllsSaid : Prop := scanAllsRow.holds Tryd.pinned (OpenSpec.ofChange scanAllsSpec)

/-- ITS FALSE NEIGHBOUR: 'it returns false'. Refute it at one input. -/
def scanAllsWrong : ChangeSpec := { name := "scanAlls", fn := fun _ => fun
  | [d] => { results := [.lit (.bool false)], args := [d] }
  | _ => none }
def ScanAllsWrongFalsely : Prop := scanAllsRow.holds Tryd.pinned (OpenSpec.ofChange scanAllsWrong)

/-- 'daybooklaw12.ScanEach': WHATEVER THE INPUT: true; the input reads as it did. -/
def scanEachSpec : ChangeSpec := { name := "scanEach", fn := fun _ => fun
  | [d1, d2] => { results := [.lit (.bool true)], args := [d1, d2] }
  | _ => none }
def scanEachRow : OpenClaim := { program := "ytkaaabnahpmobaadoor", sum := "c3c9a0361bb8d3691e17bc8186e1f59b84fd004bc5acf0c1db58301188f821d2", func := "daybook/daybooklaw12.ScanEach", spec := "scanEach", unfollowed := true, recurses := true, named := ["daybook/crc.nibbles"], apart := false, laid := [("daybook/crc.nibbles", laid_daybook_crc_nibbles)] }
def ScanEachSaid : Prop := scanEachRow.holds Tryd.pinned (OpenSpec.ofChange scanEachSpec)

/-- ITS FALSE NEIGHBOUR: 'it returns false'. Refute it at one input. -/
def scanEachWrong : ChangeSpec := { name := "scanEach", fn := fun _ => fun
  | [d1, d2] => { results := [.lit (.bool false)], args := [d1, d2] }
  | _ => none }
def ScanEachWrongFalsely : Prop := scanEachRow.holds Tryd.pinned (OpenSpec.ofChange scanEachWrong)

/-- 'daybooklaw12.ScanRuns': WHATEVER THE INPUT: true; the input reads as it did. -/
def scanRunsSpec : ChangeSpec := { name := "scanRuns", fn := fun _ => fun
  | [d1, d2, d3, d4] => { results := [.lit (.bool true)], args := [d1, d2, d3, d4] }
  | _ => none }
def scanRunsRow : OpenClaim := { program := "ytkaaabnahpmobaadoor", sum := "c3c9a0361bb8d3691e17bc8186e1f59b84fd004bc5acf0c1db58301188f821d2", func := "daybook/daybooklaw12.ScanRuns", spec := "scanRuns", unfollowed := true, recurses := true, named := ["daybook/crc.nibbles"], apart := false, laid := [("daybook/crc.nibbles", laid_daybook_crc_nibbles)] }
def ScanRunsSaid : Prop := scanRunsRow.holds Tryd.pinned (OpenSpec.ofChange scanRunsSpec)

/-- ITS FALSE NEIGHBOUR: 'it returns false'. Refute it at one input. -/
def scanRunsWrong : ChangeSpec := { name := "scanRuns", fn := fun _ => fun
  | [d1, d2, d3, d4] => { results := [.lit (.bool false)], args := [d1, d2, d3, d4] }
  | _ => none }
def ScanRunsWrongFalsely : Prop := scanRunsRow.holds Tryd.pinned (OpenSpec.ofChange scanRunsWrong)

/-- 'daybooklaw12.ScanTorn': WHATEVER THE INPUT: true; the input reads as it did. -/
def scanTornSpec : ChangeSpec := { name := "scanTorn", fn := fun _ => fun
  | [d1, d2] => { results := [.lit (.bool true)], args := [d1, d2] }
  | _ => none }
def scanTornRow : OpenClaim := { program := "ytkaaabnahpmobaadoor", sum := "c3c9a0361bb8d3691e17bc8186e1f59b84fd004bc5acf0c1db58301188f821d2", func := "daybook/daybooklaw12.ScanTorn", spec := "scanTorn", unfollowed := true, recurses := true, named := ["daybook/crc.nibbles"], apart := false, laid := [("daybook/crc.nibbles", laid_daybook_crc_nibbles)] }
def ScanTornSaid : Prop := scanTornRow.holds Tryd.pinned (OpenSpec.ofChange scanTornSpec)

/-- ITS FALSE NEIGHBOUR: 'it returns false'. Refute it at one input. -/
def scanTornWrong : ChangeSpec := { name := "scanTorn", fn := fun _ => fun
  | [d1, d2] => { results := [.lit (.bool false)], args := [d1, d2] }
  | _ => none }
def ScanTornWrongFalsely : Prop := scanTornRow.holds Tryd.pinned (OpenSpec.ofChange scanTornWrong)

/-- 'daybooklaw12.ScanBursts': WHATEVER THE INPUT: true; the input reads as it did. -/
def scanBurstsSpec : ChangeSpec := { name := "scanBursts", fn := fun _ => fun
  | [d1, d2, d3, d4] => { results := [.lit (.bool true)], args := [d1, d2, d3, d4] }
  | _ => none }
def scanBurstsRow : OpenClaim := { program := "ytkaaabnahpmobaadoor", sum := "c3c9a0361bb8d3691e17bc8186e1f59b84fd004bc5acf0c1db58301188f821d2", func := "daybook/daybooklaw12.ScanBursts", spec := "scanBursts", unfollowed := true, recurses := true, named := ["daybook/crc.nibbles"], apart := false, laid := [("daybook/crc.nibbles", laid_daybook_crc_nibbles)] }
def ScanBurstsSaid : Prop := scanBurstsRow.holds Tryd.pinned (OpenSpec.ofChange scanBurstsSpec)

/-- ITS FALSE NEIGHBOUR: 'it returns false'. Refute it at one input. -/
def scanBurstsWrong : ChangeSpec := { name := "scanBursts", fn := fun _ => fun
  | [d1, d2, d3, d4] => { results := [.lit (.bool false)], args := [d1, d2, d3, d4] }
  | _ => none }
def ScanBurstsWrongFalsely : Prop := scanBurstsRow.holds Tryd.pinned (OpenSpec.ofChange scanBurstsWrong)

/-- 'daybooklaw12.ScanJoins': WHATEVER THE INPUT: true; the input reads as it did. -/
def scanJoinsSpec : ChangeSpec := { name := "scanJoins", fn := fun _ => fun
  | [d1, d2] => { results := [.lit (.bool true)], args := [d1, d2] }
  | _ => none }
def scanJoinsRow : OpenClaim := { program := "ytkaaabnahpmobaadoor", sum := "c3c9a0361bb8d3691e17bc8186e1f59b84fd004bc5acf0c1db58301188f821d2", func := "daybook/daybooklaw12.ScanJoins", spec := "scanJoins", unfollowed := true, recurses := true, named := ["daybook/crc.nibbles"], apart := false, laid := [("daybook/crc.nibbles", laid_daybook_crc_nibbles)] }
def ScanJoinsSaid : Prop := scanJoinsRow.holds Tryd.pinned (OpenSpec.ofChange scanJoinsSpec)

/-- ITS FALSE NEIGHBOUR: 'it returns false'. Refute it at one input. -/
def scanJoinsWrong : ChangeSpec := { name := "scanJoins", fn := fun _ => fun
  | [d1, d2] => { results := [.lit (.bool false)], args := [d1, d2] }
  | _ => none }
def ScanJoinsWrongFalsely : Prop := scanJoinsRow.holds Tryd.pinned (OpenSpec.ofChange scanJoinsWrong)

/- THE SECOND FORM. 'bulk': how many values and letters a reading holds, each counted each time it is reached (what is shared counts as often as it is met; a slice's spare places count too). A statement '..UptoSaid' is the law's where the arguments, and the package variables that the reading takes, are together of bulk at most 1048576: NARROWER than '..Said'. Prove '..Said' where nothing that the law and all that it calls make is longer than what came in: it says more and counts as full. Else prove '..UptoSaid'. A law counts once. -/
mutual
def uptoBulk {H : Type} : DataW H → Nat
  | .lit (.string bytes) => bytes.length + 1
  | .lit _ => 1
  | .nil => 1
  | .ptr d => uptoBulk d + 1
  | .slice elems spare => uptoBulkAll elems + uptoBulkAll spare + 1
  | .agg parts => uptoBulkAll parts + 1
  | .iface _ d => uptoBulk d + 1
  | .map entries => uptoBulkEntries entries + 1
  | .held _ => 1
def uptoBulkAll {H : Type} : List (DataW H) → Nat
  | [] => 0
  | d :: r => uptoBulk d + uptoBulkAll r
def uptoBulkEntries {H : Type} : List (Lit × DataW H) → Nat
  | [] => 0
  | x :: r => uptoBulkEntry x + uptoBulkEntries r
def uptoBulkEntry {H : Type} : Lit × DataW H → Nat
  | (.string bytes, d) => bytes.length + uptoBulk d + 1
  | (_, d) => uptoBulk d + 1
 end
def uptoSmall : (H : Type) → List (DataW H) → Bool := fun _ ds => decide (uptoBulkAll ds ≤ 1048576)
def OpenSpec.upto (s : _root_.Go.ChangeSpec) : _root_.Go.OpenSpec := { _root_.Go.OpenSpec.ofChange s with cond := some uptoSmall }

/-- 'daybooklaw12.ScanAlls', WHERE WHAT IT READS IS OF BULK AT MOST 1048576: true; the input reads as it did. -/
def scanAllsUptoRow : OpenClaim := { program := "ytkaaabnahpmobaadoor", sum := "c3c9a0361bb8d3691e17bc8186e1f59b84fd004bc5acf0c1db58301188f821d2", func := "daybook/daybooklaw12.ScanAlls", spec := "scanAlls", unfollowed := true, recurses := true, named := ["daybook/crc.nibbles"], apart := false, laid := [("daybook/crc.nibbles", laid_daybook_crc_nibbles)], narrowed := true }
def ScanAllsUptoSaid : Prop := scanAllsUptoRow.holds Tryd.pinned (OpenSpec.upto scanAllsSpec)

/-- 'daybooklaw12.ScanEach', WHERE WHAT IT READS IS OF BULK AT MOST 1048576: true; the input reads as it did. -/
def scanEachUptoRow : OpenClaim := { program := "ytkaaabnahpmobaadoor", sum := "c3c9a0361bb8d3691e17bc8186e1f59b84fd004bc5acf0c1db58301188f821d2", func := "daybook/daybooklaw12.ScanEach", spec := "scanEach", unfollowed := true, recurses := true, named := ["daybook/crc.nibbles"], apart := false, laid := [("daybook/crc.nibbles", laid_daybook_crc_nibbles)], narrowed := true }
def ScanEachUptoSaid : Prop := scanEachUptoRow.holds Tryd.pinned (OpenSpec.upto scanEachSpec)

/-- 'daybooklaw12.ScanRuns', WHERE WHAT IT READS IS OF BULK AT MOST 1048576: true; the input reads as it did. -/
def scanRunsUptoRow : OpenClaim := { program := "ytkaaabnahpmobaadoor", sum := "c3c9a0361bb8d3691e17bc8186e1f59b84fd004bc5acf0c1db58301188f821d2", func := "daybook/daybooklaw12.ScanRuns", spec := "scanRuns", unfollowed := true, recurses := true, named := ["daybook/crc.nibbles"], apart := false, laid := [("daybook/crc.nibbles", laid_daybook_crc_nibbles)], narrowed := true }
def ScanRunsUptoSaid : Prop := scanRunsUptoRow.holds Tryd.pinned (OpenSpec.upto scanRunsSpec)

/-- 'daybooklaw12.ScanTorn', WHERE WHAT IT READS IS OF BULK AT MOST 1048576: true; the input reads as it did. -/
def scanTornUptoRow : OpenClaim := { program := "ytkaaabnahpmobaadoor", sum := "c3c9a0361bb8d3691e17bc8186e1f59b84fd004bc5acf0c1db58301188f821d2", func := "daybook/daybooklaw12.ScanTorn", spec := "scanTorn", unfollowed := true, recurses := true, named := ["daybook/crc.nibbles"], apart := false, laid := [("daybook/crc.nibbles", laid_daybook_crc_nibbles)], narrowed := true }
def ScanTornUptoSaid : Prop := scanTornUptoRow.holds Tryd.pinned (OpenSpec.upto scanTornSpec)

/-- 'daybooklaw12.ScanBursts', WHERE WHAT IT READS IS OF BULK AT MOST 1048576: true; the input reads as it did. -/
def scanBurstsUptoRow : OpenClaim := { program := "ytkaaabnahpmobaadoor", sum := "c3c9a0361bb8d3691e17bc8186e1f59b84fd004bc5acf0c1db58301188f821d2", func := "daybook/daybooklaw12.ScanBursts", spec := "scanBursts", unfollowed := true, recurses := true, named := ["daybook/crc.nibbles"], apart := false, laid := [("daybook/crc.nibbles", laid_daybook_crc_nibbles)], narrowed := true }
def ScanBurstsUptoSaid : Prop := scanBurstsUptoRow.holds Tryd.pinned (OpenSpec.upto scanBurstsSpec)

/-- 'daybooklaw12.ScanJoins', WHERE WHAT IT READS IS OF BULK AT MOST 1048576: true; the input reads as it did. -/
def scanJoinsUptoRow : OpenClaim := { program := "ytkaaabnahpmobaadoor", sum := "c3c9a0361bb8d3691e17bc8186e1f59b84fd004bc5acf0c1db58301188f821d2", func := "daybook/daybooklaw12.ScanJoins", spec := "scanJoins", unfollowed := true, recurses := true, named := ["daybook/crc.nibbles"], apart := false, laid := [("daybook/crc.nibbles", laid_daybook_crc_nibbles)], narrowed := true }
def ScanJoinsUptoSaid : Prop := scanJoinsUptoRow.holds Tryd.pinned (OpenSpec.upto scanJoinsSpec)

end Rows
end Go.Proofs.YtkaaabnahpmobaaDoor
