/-
  NARROWER THAN 'FOR EVERY INPUT', by the rows' own cells (each row's printed sentence says how): UpcastSteps: laid · UpcastMoney: laid · UpcastTos: laid · UpcastValid: laid · UpcastTwo: laid.
  DERIVED. THE GIVEN ROWS OF THIS SEAT. 5 by the template 'for every input the law returns true; each argument reads behind the call as it read before'; 0 by the template 'total and deterministic' (their statements: YtfpmlmohmmccjaaDoorTotals.lean).
  GIVEN WITH THE SEED: the statements are not yours to turn. If you find one false, say at which input.
  Laid BY PROGRAM, IN A SANDBOX (cutbox-rows.mjs): the forced cells as the released guide's own fill.sh prints them over the translation 5c4a63c7f2511672… (all of the seat's roots in one cut). By AI agents, Wed Nov 11 2026. No macro, syntax, notation, axiom, sorry.
-/
import Derived.Test.YtfpmlmohmmccjaaDoorChecked
import GoSem.Claim
import GoSem.ClaimJoined
import GoSem.ClaimMapViews
import Derived.JoinedTies
import Derived.KernelRfl
namespace Go.Proofs.YtfpmlmohmmccjaaDoor
/- THE CELL 'sum', in the pinned program and in every row, IS THE sha256 OF THE DUMP (.gsa) THAT YtfpmlmohmmccjaaDoorProg.lean LOADS. Nothing in Lean hashes anything: it is a label: what it is worth is what the hold of that sum in a sandbox is worth. -/
noncomputable def Tryd.pinned : Pinned := { name := "ytfpmlmohmmccjaadoor", sum := "5c4a63c7f251167240ac0a37f82f578697b8443db56456445fa770cc2a7f3745", checked := Tryd.checked }
namespace Rows
def none {H : Type} : Left H := { results := [], args := [] }

/- WHAT THE LISTED PACKAGE-LEVEL VARIABLES READ AS WHEN THE CALL BEGINS. Each datum BY PROGRAM (the guide's laid-datum.mjs) off the statement by which the dump's own 'gosem.cut.vars' lays the variable. In a bare row this is a premise. The card (YtfpmlmohmmccjaaDoorCards.lean) ties it to the program's text. -/
def laid_daybook_upcast_taxes {H : Type} : DataW H := .agg [.lit (.int .i64 0), .lit (.int .i64 1900), .lit (.int .i64 2000), .lit (.int .i64 700)]

/-- 'daybooklaw07.UpcastSteps': WHATEVER THE INPUT: true; the input reads as it did. -/
def upcastStepsSpec : ChangeSpec := { name := "upcastSteps", fn := fun _ => fun
  | [d1, d2] => { results := [.lit (.bool true)], args := [d1, d2] }
  | _ => none }
def upcastStepsRow : OpenClaim := { program := "ytfpmlmohmmccjaadoor", sum := "5c4a63c7f251167240ac0a37f82f578697b8443db56456445fa770cc2a7f3745", func := "daybook/daybooklaw07.UpcastSteps", spec := "upcastSteps", unfollowed := true, recurses := true, named := ["daybook/upcast.taxes"], apart := false, laid := [("daybook/upcast.taxes", laid_daybook_upcast_taxes)] }
def UpcastStepsSaid : Prop := upcastStepsRow.holds Tryd.pinned (OpenSpec.ofChange upcastStepsSpec)

/-- ITS FALSE NEIGHBOUR: 'it returns false'. Refute it at one input. -/
def upcastStepsWrong : ChangeSpec := { name := "upcastSteps", fn := fun _ => fun
  | [d1, d2] => { results := [.lit (.bool false)], args := [d1, d2] }
  | _ => none }
def UpcastStepsWrongFalsely : Prop := upcastStepsRow.holds Tryd.pinned (OpenSpec.ofChange upcastStepsWrong)

/-- 'daybooklaw07.UpcastMoney': WHATEVER THE INPUT: true; the input reads as it did. -/
def upcastMoneySpec : ChangeSpec := { name := "upcastMoney", fn := fun _ => fun
  | [d1, d2] => { results := [.lit (.bool true)], args := [d1, d2] }
  | _ => none }
def upcastMoneyRow : OpenClaim := { program := "ytfpmlmohmmccjaadoor", sum := "5c4a63c7f251167240ac0a37f82f578697b8443db56456445fa770cc2a7f3745", func := "daybook/daybooklaw07.UpcastMoney", spec := "upcastMoney", unfollowed := true, recurses := true, named := ["daybook/upcast.taxes"], apart := false, laid := [("daybook/upcast.taxes", laid_daybook_upcast_taxes)] }
def UpcastMoneySaid : Prop := upcastMoneyRow.holds Tryd.pinned (OpenSpec.ofChange upcastMoneySpec)

/-- ITS FALSE NEIGHBOUR: 'it returns false'. Refute it at one input. -/
def upcastMoneyWrong : ChangeSpec := { name := "upcastMoney", fn := fun _ => fun
  | [d1, d2] => { results := [.lit (.bool false)], args := [d1, d2] }
  | _ => none }
def UpcastMoneyWrongFalsely : Prop := upcastMoneyRow.holds Tryd.pinned (OpenSpec.ofChange upcastMoneyWrong)

/-- 'daybooklaw07.UpcastTos': WHATEVER THE INPUT: true; the input reads as it did. -/
def upcastTosSpec : ChangeSpec := { name := "upcastTos", fn := fun _ => fun
  | [d1, d2, d3] => { results := [.lit (.bool true)], args := [d1, d2, d3] }
  | _ => none }
def upcastTosRow : OpenClaim := { program := "ytfpmlmohmmccjaadoor", sum := "5c4a63c7f251167240ac0a37f82f578697b8443db56456445fa770cc2a7f3745", func := "daybook/daybooklaw07.UpcastTos", spec := "upcastTos", unfollowed := true, recurses := true, named := ["daybook/upcast.taxes"], apart := false, laid := [("daybook/upcast.taxes", laid_daybook_upcast_taxes)] }
def UpcastTosSaid : Prop := upcastTosRow.holds Tryd.pinned (OpenSpec.ofChange upcastTosSpec)

/-- ITS FALSE NEIGHBOUR: 'it returns false'. Refute it at one input. -/
def upcastTosWrong : ChangeSpec := { name := "upcastTos", fn := fun _ => fun
  | [d1, d2, d3] => { results := [.lit (.bool false)], args := [d1, d2, d3] }
  | _ => none }
def UpcastTosWrongFalsely : Prop := upcastTosRow.holds Tryd.pinned (OpenSpec.ofChange upcastTosWrong)

/-- 'daybooklaw07.UpcastValid': WHATEVER THE INPUT: true; the input reads as it did. -/
def upcastValidSpec : ChangeSpec := { name := "upcastValid", fn := fun _ => fun
  | [d1, d2] => { results := [.lit (.bool true)], args := [d1, d2] }
  | _ => none }
def upcastValidRow : OpenClaim := { program := "ytfpmlmohmmccjaadoor", sum := "5c4a63c7f251167240ac0a37f82f578697b8443db56456445fa770cc2a7f3745", func := "daybook/daybooklaw07.UpcastValid", spec := "upcastValid", unfollowed := true, recurses := true, named := ["daybook/upcast.taxes"], apart := false, laid := [("daybook/upcast.taxes", laid_daybook_upcast_taxes)] }
def UpcastValidSaid : Prop := upcastValidRow.holds Tryd.pinned (OpenSpec.ofChange upcastValidSpec)

/-- ITS FALSE NEIGHBOUR: 'it returns false'. Refute it at one input. -/
def upcastValidWrong : ChangeSpec := { name := "upcastValid", fn := fun _ => fun
  | [d1, d2] => { results := [.lit (.bool false)], args := [d1, d2] }
  | _ => none }
def UpcastValidWrongFalsely : Prop := upcastValidRow.holds Tryd.pinned (OpenSpec.ofChange upcastValidWrong)

/-- 'daybooklaw07.UpcastTwo': WHATEVER THE INPUT: true; the input reads as it did. -/
def upcastTwoSpec : ChangeSpec := { name := "upcastTwo", fn := fun _ => fun
  | [d1, d2, d3, d4] => { results := [.lit (.bool true)], args := [d1, d2, d3, d4] }
  | _ => none }
def upcastTwoRow : OpenClaim := { program := "ytfpmlmohmmccjaadoor", sum := "5c4a63c7f251167240ac0a37f82f578697b8443db56456445fa770cc2a7f3745", func := "daybook/daybooklaw07.UpcastTwo", spec := "upcastTwo", unfollowed := true, recurses := true, named := ["daybook/upcast.taxes"], apart := false, laid := [("daybook/upcast.taxes", laid_daybook_upcast_taxes)] }
def UpcastTwoSaid : Prop := upcastTwoRow.holds Tryd.pinned (OpenSpec.ofChange upcastTwoSpec)

/-- ITS FALSE NEIGHBOUR: 'it returns false'. Refute it at one input. -/
def upcastTwoWrong : ChangeSpec := { name := "upcastTwo", fn := fun _ => fun
  | [d1, d2, d3, d4] => { results := [.lit (.bool false)], args := [d1, d2, d3, d4] }
  | _ => none }
def UpcastTwoWrongFalsely : Prop := upcastTwoRow.holds Tryd.pinned (OpenSpec.ofChange upcastTwoWrong)

/- THE SECOND FORM. 'bulk': how many values and letters a reading holds, each counted each time it is reached (what is shared counts as often as it is met; a slice's spare places count too). A statement '..UptoSaid' is the law's where the arguments, and the package variables that the reading takes, are together of bulk at most 1048576: NARROWER than '..Said'. Prove '..Said' where nothing that the law and all that it calls make is longer than what came in: it says more and counts as full. Else prove '..UptoSaid'. A law counts once. -/
mutual
def uptoBulk {H : Type} : DataW H → Nat
  | .lit (.string bytes) => bytes.length + 1
  | .lit _ => 1
  | .nil => 1
  | .ptr d => uptoBulk d + 1
  | .slice elems spare => uptoBulkAll elems + uptoBulkAll spare + 1
  | .agg parts => uptoBulkAll parts + 1
  | .iface _ d => uptoBulk d + 1
  | .map entries => uptoBulkEntries entries + 1
  | .held _ => 1
def uptoBulkAll {H : Type} : List (DataW H) → Nat
  | [] => 0
  | d :: r => uptoBulk d + uptoBulkAll r
def uptoBulkEntries {H : Type} : List (Lit × DataW H) → Nat
  | [] => 0
  | x :: r => uptoBulkEntry x + uptoBulkEntries r
def uptoBulkEntry {H : Type} : Lit × DataW H → Nat
  | (.string bytes, d) => bytes.length + uptoBulk d + 1
  | (_, d) => uptoBulk d + 1
 end
def uptoSmall : (H : Type) → List (DataW H) → Bool := fun _ ds => decide (uptoBulkAll ds ≤ 1048576)
def OpenSpec.upto (s : _root_.Go.ChangeSpec) : _root_.Go.OpenSpec := { _root_.Go.OpenSpec.ofChange s with cond := some uptoSmall }

/-- 'daybooklaw07.UpcastSteps', WHERE WHAT IT READS IS OF BULK AT MOST 1048576: true; the input reads as it did. -/
def upcastStepsUptoRow : OpenClaim := { program := "ytfpmlmohmmccjaadoor", sum := "5c4a63c7f251167240ac0a37f82f578697b8443db56456445fa770cc2a7f3745", func := "daybook/daybooklaw07.UpcastSteps", spec := "upcastSteps", unfollowed := true, recurses := true, named := ["daybook/upcast.taxes"], apart := false, laid := [("daybook/upcast.taxes", laid_daybook_upcast_taxes)], narrowed := true }
def UpcastStepsUptoSaid : Prop := upcastStepsUptoRow.holds Tryd.pinned (OpenSpec.upto upcastStepsSpec)

/-- 'daybooklaw07.UpcastMoney', WHERE WHAT IT READS IS OF BULK AT MOST 1048576: true; the input reads as it did. -/
def upcastMoneyUptoRow : OpenClaim := { program := "ytfpmlmohmmccjaadoor", sum := "5c4a63c7f251167240ac0a37f82f578697b8443db56456445fa770cc2a7f3745", func := "daybook/daybooklaw07.UpcastMoney", spec := "upcastMoney", unfollowed := true, recurses := true, named := ["daybook/upcast.taxes"], apart := false, laid := [("daybook/upcast.taxes", laid_daybook_upcast_taxes)], narrowed := true }
def UpcastMoneyUptoSaid : Prop := upcastMoneyUptoRow.holds Tryd.pinned (OpenSpec.upto upcastMoneySpec)

/-- 'daybooklaw07.UpcastTos', WHERE WHAT IT READS IS OF BULK AT MOST 1048576: true; the input reads as it did. -/
def upcastTosUptoRow : OpenClaim := { program := "ytfpmlmohmmccjaadoor", sum := "5c4a63c7f251167240ac0a37f82f578697b8443db56456445fa770cc2a7f3745", func := "daybook/daybooklaw07.UpcastTos", spec := "upcastTos", unfollowed := true, recurses := true, named := ["daybook/upcast.taxes"], apart := false, laid := [("daybook/upcast.taxes", laid_daybook_upcast_taxes)], narrowed := true }
def UpcastTosUptoSaid : Prop := upcastTosUptoRow.holds Tryd.pinned (OpenSpec.upto upcastTosSpec)

/-- 'daybooklaw07.UpcastValid', WHERE WHAT IT READS IS OF BULK AT MOST 1048576: true; the input reads as it did. -/
def upcastValidUptoRow : OpenClaim := { program := "ytfpmlmohmmccjaadoor", sum := "5c4a63c7f251167240ac0a37f82f578697b8443db56456445fa770cc2a7f3745", func := "daybook/daybooklaw07.UpcastValid", spec := "upcastValid", unfollowed := true, recurses := true, named := ["daybook/upcast.taxes"], apart := false, laid := [("daybook/upcast.taxes", laid_daybook_upcast_taxes)], narrowed := true }
def UpcastValidUptoSaid : Prop := upcastValidUptoRow.holds Tryd.pinned (OpenSpec.upto upcastValidSpec)

/-- 'daybooklaw07.UpcastTwo', WHERE WHAT IT READS IS OF BULK AT MOST 1048576: true; the input reads as it did. -/
def upcastTwoUptoRow : OpenClaim := { program := "ytfpmlmohmmccjaadoor", sum := "5c4a63c7f251167240ac0a37f82f578697b8443db56456445fa770cc2a7f3745", func := "daybook/daybooklaw07.UpcastTwo", spec := "upcastTwo", unfollowed := true, recurses := true, named := ["daybook/upcast.taxes"], apart := false, laid := [("daybook/upcast.taxes", laid_daybook_upcast_taxes)], narrowed := true }
def UpcastTwoUptoSaid : Prop := upcastTwoUptoRow.holds Tryd.pinned (OpenSpec.upto upcastTwoSpec)

end Rows
end Go.Proofs.YtfpmlmohmmccjaaDoor
