/-
  NARROWER THAN 'FOR EVERY INPUT', by the rows' own cells (each row's printed sentence says how): FrameEncodes: laid · FrameDecodes: laid · FrameBack: laid · FrameBursts: laid · FrameOneForm: laid · FrameWholes: laid.
  DERIVED. THE GIVEN ROWS OF THIS SEAT. 6 by the template 'for every input the law returns true; each argument reads behind the call as it read before'; 0 by the template 'total and deterministic' (their statements: YtlhhbackaifohaaDoorTotals.lean).
  GIVEN WITH THE SEED: the statements are not yours to turn. If you find one false, say at which input.
  Laid BY PROGRAM, IN A SANDBOX (cutbox-rows.mjs): the forced cells as the released guide's own fill.sh prints them over the translation c16e77db665e3b51… (all of the seat's roots in one cut). By AI agents, Wed Nov 11 2026. No macro, syntax, notation, axiom, sorry.
-/
import Derived.Test.YtlhhbackaifohaaDoorChecked
import GoSem.Claim
import GoSem.ClaimJoined
import GoSem.ClaimMapViews
import Derived.JoinedTies
import Derived.KernelRfl
namespace Go.Proofs.YtlhhbackaifohaaDoor
/- THE CELL 'sum', in the pinned program and in every row, IS THE sha256 OF THE DUMP (.gsa) THAT YtlhhbackaifohaaDoorProg.lean LOADS. Nothing in Lean hashes anything: it is a label: what it is worth is what the hold of that sum in a sandbox is worth. -/
noncomputable def Tryd.pinned : Pinned := { name := "ytlhhbackaifohaadoor", sum := "c16e77db665e3b51a7e476ac0cbf5890dbca137b83126c37083019a3fab0b97f", checked := Tryd.checked }
namespace Rows
def none {H : Type} : Left H := { results := [], args := [] }

/- WHAT THE LISTED PACKAGE-LEVEL VARIABLES READ AS WHEN THE CALL BEGINS. Each datum BY PROGRAM (the guide's laid-datum.mjs) off the statement by which the dump's own 'gosem.cut.vars' lays the variable. In a bare row this is a premise. The card (YtlhhbackaifohaaDoorCards.lean) ties it to the program's text. -/
def laid_daybook_crc_nibbles {H : Type} : DataW H := .agg [.lit (.int .u32 0), .lit (.int .u32 498536548), .lit (.int .u32 997073096), .lit (.int .u32 651767980), .lit (.int .u32 1994146192), .lit (.int .u32 1802195444), .lit (.int .u32 1303535960), .lit (.int .u32 1342533948), .lit (.int .u32 3988292384), .lit (.int .u32 4027552580), .lit (.int .u32 3604390888), .lit (.int .u32 3412177804), .lit (.int .u32 2607071920), .lit (.int .u32 2262029012), .lit (.int .u32 2685067896), .lit (.int .u32 3183342108)]

/-- 'daybooklaw11.FrameEncodes': WHATEVER THE INPUT: true; the input reads as it did. -/
def frameEncodesSpec : ChangeSpec := { name := "frameEncodes", fn := fun _ => fun
  | [d1, d2, d3, d4] => { results := [.lit (.bool true)], args := [d1, d2, d3, d4] }
  | _ => none }
def frameEncodesRow : OpenClaim := { program := "ytlhhbackaifohaadoor", sum := "c16e77db665e3b51a7e476ac0cbf5890dbca137b83126c37083019a3fab0b97f", func := "daybook/daybooklaw11.FrameEncodes", spec := "frameEncodes", named := ["daybook/crc.nibbles"], apart := false, laid := [("daybook/crc.nibbles", laid_daybook_crc_nibbles)] }
def FrameEncodesSaid : Prop := frameEncodesRow.holds Tryd.pinned (OpenSpec.ofChange frameEncodesSpec)

/-- ITS FALSE NEIGHBOUR: 'it returns false'. Refute it at one input. -/
def frameEncodesWrong : ChangeSpec := { name := "frameEncodes", fn := fun _ => fun
  | [d1, d2, d3, d4] => { results := [.lit (.bool false)], args := [d1, d2, d3, d4] }
  | _ => none }
def FrameEncodesWrongFalsely : Prop := frameEncodesRow.holds Tryd.pinned (OpenSpec.ofChange frameEncodesWrong)

/-- 'daybooklaw11.FrameDecodes': WHATEVER THE INPUT: true; the input reads as it did. -/
def frameDecodesSpec : ChangeSpec := { name := "frameDecodes", fn := fun _ => fun
  | [d] => { results := [.lit (.bool true)], args := [d] }
  | _ => none }
def frameDecodesRow : OpenClaim := { program := "ytlhhbackaifohaadoor", sum := "c16e77db665e3b51a7e476ac0cbf5890dbca137b83126c37083019a3fab0b97f", func := "daybook/daybooklaw11.FrameDecodes", spec := "frameDecodes", named := ["daybook/crc.nibbles"], apart := false, laid := [("daybook/crc.nibbles", laid_daybook_crc_nibbles)] }
def FrameDecodesSaid : Prop := frameDecodesRow.holds Tryd.pinned (OpenSpec.ofChange frameDecodesSpec)

/-- ITS FALSE NEIGHBOUR: 'it returns false'. Refute it at one input. -/
def frameDecodesWrong : ChangeSpec := { name := "frameDecodes", fn := fun _ => fun
  | [d] => { results := [.lit (.bool false)], args := [d] }
  | _ => none }
def FrameDecodesWrongFalsely : Prop := frameDecodesRow.holds Tryd.pinned (OpenSpec.ofChange frameDecodesWrong)

/-- 'daybooklaw11.FrameBack': WHATEVER THE INPUT: true; the input reads as it did. -/
def frameBackSpec : ChangeSpec := { name := "frameBack", fn := fun _ => fun
  | [d1, d2, d3, d4, d5] => { results := [.lit (.bool true)], args := [d1, d2, d3, d4, d5] }
  | _ => none }
def frameBackRow : OpenClaim := { program := "ytlhhbackaifohaadoor", sum := "c16e77db665e3b51a7e476ac0cbf5890dbca137b83126c37083019a3fab0b97f", func := "daybook/daybooklaw11.FrameBack", spec := "frameBack", named := ["daybook/crc.nibbles"], apart := false, laid := [("daybook/crc.nibbles", laid_daybook_crc_nibbles)] }
def FrameBackSaid : Prop := frameBackRow.holds Tryd.pinned (OpenSpec.ofChange frameBackSpec)

/-- ITS FALSE NEIGHBOUR: 'it returns false'. Refute it at one input. -/
def frameBackWrong : ChangeSpec := { name := "frameBack", fn := fun _ => fun
  | [d1, d2, d3, d4, d5] => { results := [.lit (.bool false)], args := [d1, d2, d3, d4, d5] }
  | _ => none }
def FrameBackWrongFalsely : Prop := frameBackRow.holds Tryd.pinned (OpenSpec.ofChange frameBackWrong)

/-- 'daybooklaw11.FrameBursts': WHATEVER THE INPUT: true; the input reads as it did. -/
def frameBurstsSpec : ChangeSpec := { name := "frameBursts", fn := fun _ => fun
  | [d1, d2, d3, d4, d5] => { results := [.lit (.bool true)], args := [d1, d2, d3, d4, d5] }
  | _ => none }
def frameBurstsRow : OpenClaim := { program := "ytlhhbackaifohaadoor", sum := "c16e77db665e3b51a7e476ac0cbf5890dbca137b83126c37083019a3fab0b97f", func := "daybook/daybooklaw11.FrameBursts", spec := "frameBursts", named := ["daybook/crc.nibbles"], apart := false, laid := [("daybook/crc.nibbles", laid_daybook_crc_nibbles)] }
def FrameBurstsSaid : Prop := frameBurstsRow.holds Tryd.pinned (OpenSpec.ofChange frameBurstsSpec)

/-- ITS FALSE NEIGHBOUR: 'it returns false'. Refute it at one input. -/
def frameBurstsWrong : ChangeSpec := { name := "frameBursts", fn := fun _ => fun
  | [d1, d2, d3, d4, d5] => { results := [.lit (.bool false)], args := [d1, d2, d3, d4, d5] }
  | _ => none }
def FrameBurstsWrongFalsely : Prop := frameBurstsRow.holds Tryd.pinned (OpenSpec.ofChange frameBurstsWrong)

/-- 'daybooklaw11.FrameOneForm': WHATEVER THE INPUT: true; the input reads as it did. -/
def frameOneFormSpec : ChangeSpec := { name := "frameOneForm", fn := fun _ => fun
  | [d] => { results := [.lit (.bool true)], args := [d] }
  | _ => none }
def frameOneFormRow : OpenClaim := { program := "ytlhhbackaifohaadoor", sum := "c16e77db665e3b51a7e476ac0cbf5890dbca137b83126c37083019a3fab0b97f", func := "daybook/daybooklaw11.FrameOneForm", spec := "frameOneForm", named := ["daybook/crc.nibbles"], apart := false, laid := [("daybook/crc.nibbles", laid_daybook_crc_nibbles)] }
def FrameOneFormSaid : Prop := frameOneFormRow.holds Tryd.pinned (OpenSpec.ofChange frameOneFormSpec)

/-- ITS FALSE NEIGHBOUR: 'it returns false'. Refute it at one input. -/
def frameOneFormWrong : ChangeSpec := { name := "frameOneForm", fn := fun _ => fun
  | [d] => { results := [.lit (.bool false)], args := [d] }
  | _ => none }
def FrameOneFormWrongFalsely : Prop := frameOneFormRow.holds Tryd.pinned (OpenSpec.ofChange frameOneFormWrong)

/-- 'daybooklaw11.FrameWholes': WHATEVER THE INPUT: true; the input reads as it did. -/
def frameWholesSpec : ChangeSpec := { name := "frameWholes", fn := fun _ => fun
  | [d1, d2] => { results := [.lit (.bool true)], args := [d1, d2] }
  | _ => none }
def frameWholesRow : OpenClaim := { program := "ytlhhbackaifohaadoor", sum := "c16e77db665e3b51a7e476ac0cbf5890dbca137b83126c37083019a3fab0b97f", func := "daybook/daybooklaw11.FrameWholes", spec := "frameWholes", named := ["daybook/crc.nibbles"], apart := false, laid := [("daybook/crc.nibbles", laid_daybook_crc_nibbles)] }
def FrameWholesSaid : Prop := frameWholesRow.holds Tryd.pinned (OpenSpec.ofChange frameWholesSpec)

/-- ITS FALSE NEIGHBOUR: 'it returns false'. Refute it at one input. -/
def frameWholesWrong : ChangeSpec := { name := "frameWholes", fn := fun _ => fun
  | [d1, d2] => { results := [.lit (.bool false)], args := [d1, d2] }
  | _ => none }
def FrameWholesWrongFalsely : Prop := frameWholesRow.holds Tryd.pinned (OpenSpec.ofChange frameWholesWrong)

/- THE SECOND FORM. 'bulk': how many values and letters a reading holds, each counted each time it is reached (what is shared counts as often as it is met; a slice's spare places count too). A statement '..UptoSaid' is the law's where the arguments, and the package variables that the reading takes, are together of bulk at most 1048576: NARROWER than '..Said'. Prove '..Said' where nothing that the law and all that it calls make is longer than what came in: it says more and counts as full. Else prove '..UptoSaid'. A law counts once. -/
mutual
def uptoBulk {H : Type} : DataW H → Nat
  | .lit (.string bytes) => bytes.length + 1
  | .lit _ => 1
  | .nil => 1
  | .ptr d => uptoBulk d + 1
  | .slice elems spare => uptoBulkAll elems + uptoBulkAll spare + 1
  | .agg parts => uptoBulkAll parts + 1
  | .iface _ d => uptoBulk d + 1
  | .map entries => uptoBulkEntries entries + 1
  | .held _ => 1
def uptoBulkAll {H : Type} : List (DataW H) → Nat
  | [] => 0
  | d :: r => uptoBulk d + uptoBulkAll r
def uptoBulkEntries {H : Type} : List (Lit × DataW H) → Nat
  | [] => 0
  | x :: r => uptoBulkEntry x + uptoBulkEntries r
def uptoBulkEntry {H : Type} : Lit × DataW H → Nat
  | (.string bytes, d) => bytes.length + uptoBulk d + 1
  | (_, d) => uptoBulk d + 1
 end
def uptoSmall : (H : Type) → List (DataW H) → Bool := fun _ ds => decide (uptoBulkAll ds ≤ 1048576)
def OpenSpec.upto (s : _root_.Go.ChangeSpec) : _root_.Go.OpenSpec := { _root_.Go.OpenSpec.ofChange s with cond := some uptoSmall }

/-- 'daybooklaw11.FrameEncodes', WHERE WHAT IT READS IS OF BULK AT MOST 1048576: true; the input reads as it did. -/
def frameEncodesUptoRow : OpenClaim := { program := "ytlhhbackaifohaadoor", sum := "c16e77db665e3b51a7e476ac0cbf5890dbca137b83126c37083019a3fab0b97f", func := "daybook/daybooklaw11.FrameEncodes", spec := "frameEncodes", named := ["daybook/crc.nibbles"], apart := false, laid := [("daybook/crc.nibbles", laid_daybook_crc_nibbles)], narrowed := true }
def FrameEncodesUptoSaid : Prop := frameEncodesUptoRow.holds Tryd.pinned (OpenSpec.upto frameEncodesSpec)

/-- 'daybooklaw11.FrameDecodes', WHERE WHAT IT READS IS OF BULK AT MOST 1048576: true; the input reads as it did. -/
def frameDecodesUptoRow : OpenClaim := { program := "ytlhhbackaifohaadoor", sum := "c16e77db665e3b51a7e476ac0cbf5890dbca137b83126c37083019a3fab0b97f", func := "daybook/daybooklaw11.FrameDecodes", spec := "frameDecodes", named := ["daybook/crc.nibbles"], apart := false, laid := [("daybook/crc.nibbles", laid_daybook_crc_nibbles)], narrowed := true }
def FrameDecodesUptoSaid : Prop := frameDecodesUptoRow.holds Tryd.pinned (OpenSpec.upto frameDecodesSpec)

/-- 'daybooklaw11.FrameBack', WHERE WHAT IT READS IS OF BULK AT MOST 1048576: true; the input reads as it did. -/
def frameBackUptoRow : OpenClaim := { program := "ytlhhbackaifohaadoor", sum := "c16e77db665e3b51a7e476ac0cbf5890dbca137b83126c37083019a3fab0b97f", func := "daybook/daybooklaw11.FrameBack", spec := "frameBack", named := ["daybook/crc.nibbles"], apart := false, laid := [("daybook/crc.nibbles", laid_daybook_crc_nibbles)], narrowed := true }
def FrameBackUptoSaid : Prop := frameBackUptoRow.holds Tryd.pinned (OpenSpec.upto frameBackSpec)

/-- 'daybooklaw11.FrameBursts', WHERE WHAT IT READS IS OF BULK AT MOST 1048576: true; the input reads as it did. -/
def frameBurstsUptoRow : OpenClaim := { program := "ytlhhbackaifohaadoor", sum := "c16e77db665e3b51a7e476ac0cbf5890dbca137b83126c37083019a3fab0b97f", func := "daybook/daybooklaw11.FrameBursts", spec := "frameBursts", named := ["daybook/crc.nibbles"], apart := false, laid := [("daybook/crc.nibbles", laid_daybook_crc_nibbles)], narrowed := true }
def FrameBurstsUptoSaid : Prop := frameBurstsUptoRow.holds Tryd.pinned (OpenSpec.upto frameBurstsSpec)

/-- 'daybooklaw11.FrameOneForm', WHERE WHAT IT READS IS OF BULK AT MOST 1048576: true; the input reads as it did. -/
def frameOneFormUptoRow : OpenClaim := { program := "ytlhhbackaifohaadoor", sum := "c16e77db665e3b51a7e476ac0cbf5890dbca137b83126c37083019a3fab0b97f", func := "daybook/daybooklaw11.FrameOneForm", spec := "frameOneForm", named := ["daybook/crc.nibbles"], apart := false, laid := [("daybook/crc.nibbles", laid_daybook_crc_nibbles)], narrowed := true }
def FrameOneFormUptoSaid : Prop := frameOneFormUptoRow.holds Tryd.pinned (OpenSpec.upto frameOneFormSpec)

/-- 'daybooklaw11.FrameWholes', WHERE WHAT IT READS IS OF BULK AT MOST 1048576: true; the input reads as it did. -/
def frameWholesUptoRow : OpenClaim := { program := "ytlhhbackaifohaadoor", sum := "c16e77db665e3b51a7e476ac0cbf5890dbca137b83126c37083019a3fab0b97f", func := "daybook/daybooklaw11.FrameWholes", spec := "frameWholes", named := ["daybook/crc.nibbles"], apart := false, laid := [("daybook/crc.nibbles", laid_daybook_crc_nibbles)], narrowed := true }
def FrameWholesUptoSaid : Prop := frameWholesUptoRow.holds Tryd.pinned (OpenSpec.upto frameWholesSpec)

end Rows
end Go.Proofs.YtlhhbackaifohaaDoor
