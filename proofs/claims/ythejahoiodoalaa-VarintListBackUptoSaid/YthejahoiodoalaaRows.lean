/-
  No cell of these rows narrows 'for every input' (looked for: loops, veiled, ifaces, maps, wideKeys, modest, calm, conditions, laid).
  DERIVED. THE GIVEN ROWS OF THIS SEAT. 10 by the template 'for every input the law returns true; each argument reads behind the call as it read before'; 0 by the template 'total and deterministic' (their statements: YthejahoiodoalaaTotals.lean).
  GIVEN WITH THE SEED: the statements are not yours to turn. If you find one false, say at which input.
  Laid BY PROGRAM, IN A SANDBOX (cutbox-rows.mjs): the forced cells as the released guide's own fill.sh prints them over the translation 546e56af288bd141… (all of the seat's roots in one cut). By AI agents, Wed Nov 11 2026. No macro, syntax, notation, axiom, sorry.
-/
import Derived.Test.YthejahoiodoalaaChecked
import GoSem.Claim
import GoSem.ClaimJoined
import GoSem.ClaimMapViews
import Derived.JoinedTies
import Derived.KernelRfl
namespace Go.Proofs.Ythejahoiodoalaa
/- THE CELL 'sum', in the pinned program and in every row, IS THE sha256 OF THE DUMP (.gsa) THAT YthejahoiodoalaaProg.lean LOADS. Nothing in Lean hashes anything: it is a label: what it is worth is what the hold of that sum in a sandbox is worth. -/
noncomputable def Try.pinned : Pinned := { name := "ythejahoiodoalaa", sum := "546e56af288bd14156914241f0b2d25f16ae8865a63e3896199115ba1c23ee53", checked := Try.checked }
namespace Rows
def none {H : Type} : Left H := { results := [], args := [] }

/-- 'daybooklaw02.VarintSmall': WHATEVER THE INPUT: true; the input reads as it did. -/
def varintSmallSpec : ChangeSpec := { name := "varintSmall", fn := fun _ => fun
  | [d1, d2] => { results := [.lit (.bool true)], args := [d1, d2] }
  | _ => none }
def varintSmallRow : OpenClaim := { program := "ythejahoiodoalaa", sum := "546e56af288bd14156914241f0b2d25f16ae8865a63e3896199115ba1c23ee53", func := "daybook/daybooklaw02.VarintSmall", spec := "varintSmall", apart := false }
def VarintSmallSaid : Prop := varintSmallRow.holds Try.pinned (OpenSpec.ofChange varintSmallSpec)

/-- ITS FALSE NEIGHBOUR: 'it returns false'. Refute it at one input. -/
def varintSmallWrong : ChangeSpec := { name := "varintSmall", fn := fun _ => fun
  | [d1, d2] => { results := [.lit (.bool false)], args := [d1, d2] }
  | _ => none }
def VarintSmallWrongFalsely : Prop := varintSmallRow.holds Try.pinned (OpenSpec.ofChange varintSmallWrong)

/-- 'daybooklaw02.VarintZigs': WHATEVER THE INPUT: true; the input reads as it did. -/
def varintZigsSpec : ChangeSpec := { name := "varintZigs", fn := fun _ => fun
  | [d1, d2] => { results := [.lit (.bool true)], args := [d1, d2] }
  | _ => none }
def varintZigsRow : OpenClaim := { program := "ythejahoiodoalaa", sum := "546e56af288bd14156914241f0b2d25f16ae8865a63e3896199115ba1c23ee53", func := "daybook/daybooklaw02.VarintZigs", spec := "varintZigs", apart := false }
def VarintZigsSaid : Prop := varintZigsRow.holds Try.pinned (OpenSpec.ofChange varintZigsSpec)

/-- ITS FALSE NEIGHBOUR: 'it returns false'. Refute it at one input. -/
def varintZigsWrong : ChangeSpec := { name := "varintZigs", fn := fun _ => fun
  | [d1, d2] => { results := [.lit (.bool false)], args := [d1, d2] }
  | _ => none }
def VarintZigsWrongFalsely : Prop := varintZigsRow.holds Try.pinned (OpenSpec.ofChange varintZigsWrong)

/-- 'daybooklaw02.VarintRises': WHATEVER THE INPUT: true; the input reads as it did. -/
def varintRisesSpec : ChangeSpec := { name := "varintRises", fn := fun _ => fun
  | [d1, d2] => { results := [.lit (.bool true)], args := [d1, d2] }
  | _ => none }
def varintRisesRow : OpenClaim := { program := "ythejahoiodoalaa", sum := "546e56af288bd14156914241f0b2d25f16ae8865a63e3896199115ba1c23ee53", func := "daybook/daybooklaw02.VarintRises", spec := "varintRises", apart := false }
def VarintRisesSaid : Prop := varintRisesRow.holds Try.pinned (OpenSpec.ofChange varintRisesSpec)

/-- ITS FALSE NEIGHBOUR: 'it returns false'. Refute it at one input. -/
def varintRisesWrong : ChangeSpec := { name := "varintRises", fn := fun _ => fun
  | [d1, d2] => { results := [.lit (.bool false)], args := [d1, d2] }
  | _ => none }
def VarintRisesWrongFalsely : Prop := varintRisesRow.holds Try.pinned (OpenSpec.ofChange varintRisesWrong)

/-- 'daybooklaw02.VarintDecodes': WHATEVER THE INPUT: true; the input reads as it did. -/
def varintDecodesSpec : ChangeSpec := { name := "varintDecodes", fn := fun _ => fun
  | [d] => { results := [.lit (.bool true)], args := [d] }
  | _ => none }
def varintDecodesRow : OpenClaim := { program := "ythejahoiodoalaa", sum := "546e56af288bd14156914241f0b2d25f16ae8865a63e3896199115ba1c23ee53", func := "daybook/daybooklaw02.VarintDecodes", spec := "varintDecodes", apart := false }
def VarintDecodesSaid : Prop := varintDecodesRow.holds Try.pinned (OpenSpec.ofChange varintDecodesSpec)

/-- ITS FALSE NEIGHBOUR: 'it returns false'. Refute it at one input. -/
def varintDecodesWrong : ChangeSpec := { name := "varintDecodes", fn := fun _ => fun
  | [d] => { results := [.lit (.bool false)], args := [d] }
  | _ => none }
def VarintDecodesWrongFalsely : Prop := varintDecodesRow.holds Try.pinned (OpenSpec.ofChange varintDecodesWrong)

/-- 'daybooklaw02.VarintOneForm': WHATEVER THE INPUT: true; the input reads as it did. -/
def varintOneFormSpec : ChangeSpec := { name := "varintOneForm", fn := fun _ => fun
  | [d] => { results := [.lit (.bool true)], args := [d] }
  | _ => none }
def varintOneFormRow : OpenClaim := { program := "ythejahoiodoalaa", sum := "546e56af288bd14156914241f0b2d25f16ae8865a63e3896199115ba1c23ee53", func := "daybook/daybooklaw02.VarintOneForm", spec := "varintOneForm", apart := false }
def VarintOneFormSaid : Prop := varintOneFormRow.holds Try.pinned (OpenSpec.ofChange varintOneFormSpec)

/-- ITS FALSE NEIGHBOUR: 'it returns false'. Refute it at one input. -/
def varintOneFormWrong : ChangeSpec := { name := "varintOneForm", fn := fun _ => fun
  | [d] => { results := [.lit (.bool false)], args := [d] }
  | _ => none }
def VarintOneFormWrongFalsely : Prop := varintOneFormRow.holds Try.pinned (OpenSpec.ofChange varintOneFormWrong)

/-- 'daybooklaw02.VarintEncodes': WHATEVER THE INPUT: true; the input reads as it did. -/
def varintEncodesSpec : ChangeSpec := { name := "varintEncodes", fn := fun _ => fun
  | [d] => { results := [.lit (.bool true)], args := [d] }
  | _ => none }
def varintEncodesRow : OpenClaim := { program := "ythejahoiodoalaa", sum := "546e56af288bd14156914241f0b2d25f16ae8865a63e3896199115ba1c23ee53", func := "daybook/daybooklaw02.VarintEncodes", spec := "varintEncodes", recurses := true, apart := false }
def VarintEncodesSaid : Prop := varintEncodesRow.holds Try.pinned (OpenSpec.ofChange varintEncodesSpec)

/-- ITS FALSE NEIGHBOUR: 'it returns false'. Refute it at one input. -/
def varintEncodesWrong : ChangeSpec := { name := "varintEncodes", fn := fun _ => fun
  | [d] => { results := [.lit (.bool false)], args := [d] }
  | _ => none }
def VarintEncodesWrongFalsely : Prop := varintEncodesRow.holds Try.pinned (OpenSpec.ofChange varintEncodesWrong)

/-- 'daybooklaw02.VarintBack': WHATEVER THE INPUT: true; the input reads as it did. -/
def varintBackSpec : ChangeSpec := { name := "varintBack", fn := fun _ => fun
  | [d1, d2] => { results := [.lit (.bool true)], args := [d1, d2] }
  | _ => none }
def varintBackRow : OpenClaim := { program := "ythejahoiodoalaa", sum := "546e56af288bd14156914241f0b2d25f16ae8865a63e3896199115ba1c23ee53", func := "daybook/daybooklaw02.VarintBack", spec := "varintBack", apart := false }
def VarintBackSaid : Prop := varintBackRow.holds Try.pinned (OpenSpec.ofChange varintBackSpec)

/-- ITS FALSE NEIGHBOUR: 'it returns false'. Refute it at one input. -/
def varintBackWrong : ChangeSpec := { name := "varintBack", fn := fun _ => fun
  | [d1, d2] => { results := [.lit (.bool false)], args := [d1, d2] }
  | _ => none }
def VarintBackWrongFalsely : Prop := varintBackRow.holds Try.pinned (OpenSpec.ofChange varintBackWrong)

/-- 'daybooklaw02.VarintLists': WHATEVER THE INPUT: true; the input reads as it did. -/
def varintListsSpec : ChangeSpec := { name := "varintLists", fn := fun _ => fun
  | [d1, d2, d3] => { results := [.lit (.bool true)], args := [d1, d2, d3] }
  | _ => none }
def varintListsRow : OpenClaim := { program := "ythejahoiodoalaa", sum := "546e56af288bd14156914241f0b2d25f16ae8865a63e3896199115ba1c23ee53", func := "daybook/daybooklaw02.VarintLists", spec := "varintLists", recurses := true, apart := false }
def VarintListsSaid : Prop := varintListsRow.holds Try.pinned (OpenSpec.ofChange varintListsSpec)

/-- ITS FALSE NEIGHBOUR: 'it returns false'. Refute it at one input. -/
def varintListsWrong : ChangeSpec := { name := "varintLists", fn := fun _ => fun
  | [d1, d2, d3] => { results := [.lit (.bool false)], args := [d1, d2, d3] }
  | _ => none }
def VarintListsWrongFalsely : Prop := varintListsRow.holds Try.pinned (OpenSpec.ofChange varintListsWrong)

/-- 'daybooklaw02.VarintListBack': WHATEVER THE INPUT: true; the input reads as it did. -/
def varintListBackSpec : ChangeSpec := { name := "varintListBack", fn := fun _ => fun
  | [d1, d2] => { results := [.lit (.bool true)], args := [d1, d2] }
  | _ => none }
def varintListBackRow : OpenClaim := { program := "ythejahoiodoalaa", sum := "546e56af288bd14156914241f0b2d25f16ae8865a63e3896199115ba1c23ee53", func := "daybook/daybooklaw02.VarintListBack", spec := "varintListBack", apart := false }
def VarintListBackSaid : Prop := varintListBackRow.holds Try.pinned (OpenSpec.ofChange varintListBackSpec)

/-- ITS FALSE NEIGHBOUR: 'it returns false'. Refute it at one input. -/
def varintListBackWrong : ChangeSpec := { name := "varintListBack", fn := fun _ => fun
  | [d1, d2] => { results := [.lit (.bool false)], args := [d1, d2] }
  | _ => none }
def VarintListBackWrongFalsely : Prop := varintListBackRow.holds Try.pinned (OpenSpec.ofChange varintListBackWrong)

/-- 'daybooklaw02.VarintOwn': WHATEVER THE INPUT: true; the input reads as it did. -/
def varintOwnSpec : ChangeSpec := { name := "varintOwn", fn := fun _ => fun
  | [d1, d2] => { results := [.lit (.bool true)], args := [d1, d2] }
  | _ => none }
def varintOwnRow : OpenClaim := { program := "ythejahoiodoalaa", sum := "546e56af288bd14156914241f0b2d25f16ae8865a63e3896199115ba1c23ee53", func := "daybook/daybooklaw02.VarintOwn", spec := "varintOwn", recurses := true, apart := false }
def VarintOwnSaid : Prop := varintOwnRow.holds Try.pinned (OpenSpec.ofChange varintOwnSpec)

/-- ITS FALSE NEIGHBOUR: 'it returns false'. Refute it at one input. -/
def varintOwnWrong : ChangeSpec := { name := "varintOwn", fn := fun _ => fun
  | [d1, d2] => { results := [.lit (.bool false)], args := [d1, d2] }
  | _ => none }
def VarintOwnWrongFalsely : Prop := varintOwnRow.holds Try.pinned (OpenSpec.ofChange varintOwnWrong)

/- THE SECOND FORM. 'bulk': how many values and letters a reading holds, each counted each time it is reached (what is shared counts as often as it is met; a slice's spare places count too). A statement '..UptoSaid' is the law's where the arguments, and the package variables that the reading takes, are together of bulk at most 1048576: NARROWER than '..Said'. Prove '..Said' where nothing that the law and all that it calls make is longer than what came in: it says more and counts as full. Else prove '..UptoSaid'. A law counts once. -/
mutual
def uptoBulk {H : Type} : DataW H → Nat
  | .lit (.string bytes) => bytes.length + 1
  | .lit _ => 1
  | .nil => 1
  | .ptr d => uptoBulk d + 1
  | .slice elems spare => uptoBulkAll elems + uptoBulkAll spare + 1
  | .agg parts => uptoBulkAll parts + 1
  | .iface _ d => uptoBulk d + 1
  | .map entries => uptoBulkEntries entries + 1
  | .held _ => 1
def uptoBulkAll {H : Type} : List (DataW H) → Nat
  | [] => 0
  | d :: r => uptoBulk d + uptoBulkAll r
def uptoBulkEntries {H : Type} : List (Lit × DataW H) → Nat
  | [] => 0
  | x :: r => uptoBulkEntry x + uptoBulkEntries r
def uptoBulkEntry {H : Type} : Lit × DataW H → Nat
  | (.string bytes, d) => bytes.length + uptoBulk d + 1
  | (_, d) => uptoBulk d + 1
 end
def uptoSmall : (H : Type) → List (DataW H) → Bool := fun _ ds => decide (uptoBulkAll ds ≤ 1048576)
def OpenSpec.upto (s : _root_.Go.ChangeSpec) : _root_.Go.OpenSpec := { _root_.Go.OpenSpec.ofChange s with cond := some uptoSmall }

/-- 'daybooklaw02.VarintSmall', WHERE WHAT IT READS IS OF BULK AT MOST 1048576: true; the input reads as it did. -/
def varintSmallUptoRow : OpenClaim := { program := "ythejahoiodoalaa", sum := "546e56af288bd14156914241f0b2d25f16ae8865a63e3896199115ba1c23ee53", func := "daybook/daybooklaw02.VarintSmall", spec := "varintSmall", apart := false, narrowed := true }
def VarintSmallUptoSaid : Prop := varintSmallUptoRow.holds Try.pinned (OpenSpec.upto varintSmallSpec)

/-- 'daybooklaw02.VarintZigs', WHERE WHAT IT READS IS OF BULK AT MOST 1048576: true; the input reads as it did. -/
def varintZigsUptoRow : OpenClaim := { program := "ythejahoiodoalaa", sum := "546e56af288bd14156914241f0b2d25f16ae8865a63e3896199115ba1c23ee53", func := "daybook/daybooklaw02.VarintZigs", spec := "varintZigs", apart := false, narrowed := true }
def VarintZigsUptoSaid : Prop := varintZigsUptoRow.holds Try.pinned (OpenSpec.upto varintZigsSpec)

/-- 'daybooklaw02.VarintRises', WHERE WHAT IT READS IS OF BULK AT MOST 1048576: true; the input reads as it did. -/
def varintRisesUptoRow : OpenClaim := { program := "ythejahoiodoalaa", sum := "546e56af288bd14156914241f0b2d25f16ae8865a63e3896199115ba1c23ee53", func := "daybook/daybooklaw02.VarintRises", spec := "varintRises", apart := false, narrowed := true }
def VarintRisesUptoSaid : Prop := varintRisesUptoRow.holds Try.pinned (OpenSpec.upto varintRisesSpec)

/-- 'daybooklaw02.VarintDecodes', WHERE WHAT IT READS IS OF BULK AT MOST 1048576: true; the input reads as it did. -/
def varintDecodesUptoRow : OpenClaim := { program := "ythejahoiodoalaa", sum := "546e56af288bd14156914241f0b2d25f16ae8865a63e3896199115ba1c23ee53", func := "daybook/daybooklaw02.VarintDecodes", spec := "varintDecodes", apart := false, narrowed := true }
def VarintDecodesUptoSaid : Prop := varintDecodesUptoRow.holds Try.pinned (OpenSpec.upto varintDecodesSpec)

/-- 'daybooklaw02.VarintOneForm', WHERE WHAT IT READS IS OF BULK AT MOST 1048576: true; the input reads as it did. -/
def varintOneFormUptoRow : OpenClaim := { program := "ythejahoiodoalaa", sum := "546e56af288bd14156914241f0b2d25f16ae8865a63e3896199115ba1c23ee53", func := "daybook/daybooklaw02.VarintOneForm", spec := "varintOneForm", apart := false, narrowed := true }
def VarintOneFormUptoSaid : Prop := varintOneFormUptoRow.holds Try.pinned (OpenSpec.upto varintOneFormSpec)

/-- 'daybooklaw02.VarintEncodes', WHERE WHAT IT READS IS OF BULK AT MOST 1048576: true; the input reads as it did. -/
def varintEncodesUptoRow : OpenClaim := { program := "ythejahoiodoalaa", sum := "546e56af288bd14156914241f0b2d25f16ae8865a63e3896199115ba1c23ee53", func := "daybook/daybooklaw02.VarintEncodes", spec := "varintEncodes", recurses := true, apart := false, narrowed := true }
def VarintEncodesUptoSaid : Prop := varintEncodesUptoRow.holds Try.pinned (OpenSpec.upto varintEncodesSpec)

/-- 'daybooklaw02.VarintBack', WHERE WHAT IT READS IS OF BULK AT MOST 1048576: true; the input reads as it did. -/
def varintBackUptoRow : OpenClaim := { program := "ythejahoiodoalaa", sum := "546e56af288bd14156914241f0b2d25f16ae8865a63e3896199115ba1c23ee53", func := "daybook/daybooklaw02.VarintBack", spec := "varintBack", apart := false, narrowed := true }
def VarintBackUptoSaid : Prop := varintBackUptoRow.holds Try.pinned (OpenSpec.upto varintBackSpec)

/-- 'daybooklaw02.VarintLists', WHERE WHAT IT READS IS OF BULK AT MOST 1048576: true; the input reads as it did. -/
def varintListsUptoRow : OpenClaim := { program := "ythejahoiodoalaa", sum := "546e56af288bd14156914241f0b2d25f16ae8865a63e3896199115ba1c23ee53", func := "daybook/daybooklaw02.VarintLists", spec := "varintLists", recurses := true, apart := false, narrowed := true }
def VarintListsUptoSaid : Prop := varintListsUptoRow.holds Try.pinned (OpenSpec.upto varintListsSpec)

/-- 'daybooklaw02.VarintListBack', WHERE WHAT IT READS IS OF BULK AT MOST 1048576: true; the input reads as it did. -/
def varintListBackUptoRow : OpenClaim := { program := "ythejahoiodoalaa", sum := "546e56af288bd14156914241f0b2d25f16ae8865a63e3896199115ba1c23ee53", func := "daybook/daybooklaw02.VarintListBack", spec := "varintListBack", apart := false, narrowed := true }
def VarintListBackUptoSaid : Prop := varintListBackUptoRow.holds Try.pinned (OpenSpec.upto varintListBackSpec)

/-- 'daybooklaw02.VarintOwn', WHERE WHAT IT READS IS OF BULK AT MOST 1048576: true; the input reads as it did. -/
def varintOwnUptoRow : OpenClaim := { program := "ythejahoiodoalaa", sum := "546e56af288bd14156914241f0b2d25f16ae8865a63e3896199115ba1c23ee53", func := "daybook/daybooklaw02.VarintOwn", spec := "varintOwn", recurses := true, apart := false, narrowed := true }
def VarintOwnUptoSaid : Prop := varintOwnUptoRow.holds Try.pinned (OpenSpec.upto varintOwnSpec)

end Rows
end Go.Proofs.Ythejahoiodoalaa
