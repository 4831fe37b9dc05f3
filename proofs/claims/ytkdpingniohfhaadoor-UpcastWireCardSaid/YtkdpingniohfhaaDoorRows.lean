/-
  NARROWER THAN 'FOR EVERY INPUT', by the rows' own cells (each row's printed sentence says how): UpcastReads: laid · UpcastWire: laid.
  DERIVED. THE GIVEN ROWS OF THIS SEAT. 2 by the template 'for every input the law returns true; each argument reads behind the call as it read before'; 0 by the template 'total and deterministic' (their statements: YtkdpingniohfhaaDoorTotals.lean).
  GIVEN WITH THE SEED: the statements are not yours to turn. If you find one false, say at which input.
  Laid BY PROGRAM, IN A SANDBOX (cutbox-rows.mjs): the forced cells as the released guide's own fill.sh prints them over the translation 5c915160ce230762… (all of the seat's roots in one cut). By AI agents, Wed Nov 11 2026. No macro, syntax, notation, axiom, sorry.
-/
import Derived.Test.YtkdpingniohfhaaDoorChecked
import GoSem.Claim
import GoSem.ClaimJoined
import GoSem.ClaimMapViews
import Derived.JoinedTies
import Derived.KernelRfl
namespace Go.Proofs.YtkdpingniohfhaaDoor
/- THE CELL 'sum', in the pinned program and in every row, IS THE sha256 OF THE DUMP (.gsa) THAT YtkdpingniohfhaaDoorProg.lean LOADS. Nothing in Lean hashes anything: it is a label: what it is worth is what the hold of that sum in a sandbox is worth. -/
noncomputable def Tryd.pinned : Pinned := { name := "ytkdpingniohfhaadoor", sum := "5c915160ce2307625de01cba706e0954e2588a73e3c2b3c0275389b29fb4823b", checked := Tryd.checked }
namespace Rows
def none {H : Type} : Left H := { results := [], args := [] }

/- WHAT THE LISTED PACKAGE-LEVEL VARIABLES READ AS WHEN THE CALL BEGINS. Each datum BY PROGRAM (the guide's laid-datum.mjs) off the statement by which the dump's own 'gosem.cut.vars' lays the variable. In a bare row this is a premise. The card (YtkdpingniohfhaaDoorCards.lean) ties it to the program's text. -/
def laid_daybook_upcast_taxes {H : Type} : DataW H := .agg [.lit (.int .i64 0), .lit (.int .i64 1900), .lit (.int .i64 2000), .lit (.int .i64 700)]

/-- 'daybooklaw07.UpcastReads': WHATEVER THE INPUT: true; the input reads as it did. -/
def upcastReadsSpec : ChangeSpec := { name := "upcastReads", fn := fun _ => fun
  | [d] => { results := [.lit (.bool true)], args := [d] }
  | _ => none }
def upcastReadsRow : OpenClaim := { program := "ytkdpingniohfhaadoor", sum := "5c915160ce2307625de01cba706e0954e2588a73e3c2b3c0275389b29fb4823b", func := "daybook/daybooklaw07.UpcastReads", spec := "upcastReads", unfollowed := true, recurses := true, named := ["daybook/upcast.taxes"], apart := false, laid := [("daybook/upcast.taxes", laid_daybook_upcast_taxes)] }
def UpcastReadsSaid : Prop := upcastReadsRow.holds Tryd.pinned (OpenSpec.ofChange upcastReadsSpec)

/-- ITS FALSE NEIGHBOUR: 'it returns false'. Refute it at one input. -/
def upcastReadsWrong : ChangeSpec := { name := "upcastReads", fn := fun _ => fun
  | [d] => { results := [.lit (.bool false)], args := [d] }
  | _ => none }
def UpcastReadsWrongFalsely : Prop := upcastReadsRow.holds Tryd.pinned (OpenSpec.ofChange upcastReadsWrong)

/-- 'daybooklaw07.UpcastWire': WHATEVER THE INPUT: true; the input reads as it did. -/
def upcastWireSpec : ChangeSpec := { name := "upcastWire", fn := fun _ => fun
  | [d1, d2] => { results := [.lit (.bool true)], args := [d1, d2] }
  | _ => none }
def upcastWireRow : OpenClaim := { program := "ytkdpingniohfhaadoor", sum := "5c915160ce2307625de01cba706e0954e2588a73e3c2b3c0275389b29fb4823b", func := "daybook/daybooklaw07.UpcastWire", spec := "upcastWire", unfollowed := true, recurses := true, named := ["daybook/upcast.taxes"], apart := false, laid := [("daybook/upcast.taxes", laid_daybook_upcast_taxes)] }
def UpcastWireSaid : Prop := upcastWireRow.holds Tryd.pinned (OpenSpec.ofChange upcastWireSpec)

/-- ITS FALSE NEIGHBOUR: 'it returns false'. Refute it at one input. -/
def upcastWireWrong : ChangeSpec := { name := "upcastWire", fn := fun _ => fun
  | [d1, d2] => { results := [.lit (.bool false)], args := [d1, d2] }
  | _ => none }
def UpcastWireWrongFalsely : Prop := upcastWireRow.holds Tryd.pinned (OpenSpec.ofChange upcastWireWrong)

/- THE SECOND FORM. 'bulk': how many values and letters a reading holds, each counted each time it is reached (what is shared counts as often as it is met; a slice's spare places count too). A statement '..UptoSaid' is the law's where the arguments, and the package variables that the reading takes, are together of bulk at most 1048576: NARROWER than '..Said'. Prove '..Said' where nothing that the law and all that it calls make is longer than what came in: it says more and counts as full. Else prove '..UptoSaid'. A law counts once. -/
mutual
def uptoBulk {H : Type} : DataW H → Nat
  | .lit (.string bytes) => bytes.length + 1
  | .lit _ => 1
  | .nil => 1
  | .ptr d => uptoBulk d + 1
  | .slice elems spare => uptoBulkAll elems + uptoBulkAll spare + 1
  | .agg parts => uptoBulkAll parts + 1
  | .iface _ d => uptoBulk d + 1
  | .map entries => uptoBulkEntries entries + 1
  | .held _ => 1
def uptoBulkAll {H : Type} : List (DataW H) → Nat
  | [] => 0
  | d :: r => uptoBulk d + uptoBulkAll r
def uptoBulkEntries {H : Type} : List (Lit × DataW H) → Nat
  | [] => 0
  | x :: r => uptoBulkEntry x + uptoBulkEntries r
def uptoBulkEntry {H : Type} : Lit × DataW H → Nat
  | (.string bytes, d) => bytes.length + uptoBulk d + 1
  | (_, d) => uptoBulk d + 1
 end
def uptoSmall : (H : Type) → List (DataW H) → Bool := fun _ ds => decide (uptoBulkAll ds ≤ 1048576)
def OpenSpec.upto (s : _root_.Go.ChangeSpec) : _root_.Go.OpenSpec := { _root_.Go.OpenSpec.ofChange s with cond := some uptoSmall }

/-- 'daybooklaw07.UpcastReads', WHERE WHAT IT READS IS OF BULK AT MOST 1048576: true; the input reads as it did. -/
def upcastReadsUptoRow : OpenClaim := { program := "ytkdpingniohfhaadoor", sum := "5c915160ce2307625de01cba706e0954e2588a73e3c2b3c0275389b29fb4823b", func := "daybook/daybooklaw07.UpcastReads", spec := "upcastReads", unfollowed := true, recurses := true, named := ["daybook/upcast.taxes"], apart := false, laid := [("daybook/upcast.taxes", laid_daybook_upcast_taxes)], narrowed := true }
def UpcastReadsUptoSaid : Prop := upcastReadsUptoRow.holds Tryd.pinned (OpenSpec.upto upcastReadsSpec)

/-- 'daybooklaw07.UpcastWire', WHERE WHAT IT READS IS OF BULK AT MOST 1048576: true; the input reads as it did. -/
def upcastWireUptoRow : OpenClaim := { program := "ytkdpingniohfhaadoor", sum := "5c915160ce2307625de01cba706e0954e2588a73e3c2b3c0275389b29fb4823b", func := "daybook/daybooklaw07.UpcastWire", spec := "upcastWire", unfollowed := true, recurses := true, named := ["daybook/upcast.taxes"], apart := false, laid := [("daybook/upcast.taxes", laid_daybook_upcast_taxes)], narrowed := true }
def UpcastWireUptoSaid : Prop := upcastWireUptoRow.holds Tryd.pinned (OpenSpec.upto upcastWireSpec)

end Rows
end Go.Proofs.YtkdpingniohfhaaDoor
