/-
  No cell of these rows narrows 'for every input' (looked for: loops, veiled, ifaces, maps, wideKeys, modest, calm, conditions, laid).
  DERIVED. THE GIVEN ROWS OF THIS SEAT. 8 by the template 'for every input the law returns true; each argument reads behind the call as it read before'; 0 by the template 'total and deterministic' (their statements: YtfiplongnnkhmaaTotals.lean).
  GIVEN WITH THE SEED: the statements are not yours to turn. If you find one false, say at which input.
  Laid BY PROGRAM, IN A SANDBOX (cutbox-rows.mjs): the forced cells as the released guide's own fill.sh prints them over the translation ce98d0a1ce951b6e… (all of the seat's roots in one cut). By AI agents, Wed Nov 11 2026. No macro, syntax, notation, axiom, sorry.
-/
import Derived.Test.YtfiplongnnkhmaaChecked
import GoSem.Claim
import GoSem.ClaimJoined
import GoSem.ClaimMapViews
import Derived.JoinedTies
import Derived.KernelRfl
namespace Go.Proofs.Ytfiplongnnkhmaa
/- THE CELL 'sum', in the pinned program and in every row, IS THE sha256 OF THE DUMP (.gsa) THAT YtfiplongnnkhmaaProg.lean LOADS. Nothing in Lean hashes anything: it is a label: what it is worth is what the hold of that sum in a sandbox is worth. -/
noncomputable def Try.pinned : Pinned := { name := "ytfiplongnnkhmaa", sum := "ce98d0a1ce951b6e9b57190f59aec7e698ab7a317e63818085626fc00128a897", checked := Try.checked }
namespace Rows
def none {H : Type} : Left H := { results := [], args := [] }

/-- 'daybooklaw06.SchemaChecks': WHATEVER THE INPUT: true; the input reads as it did. -/
def schemaChecksSpec : ChangeSpec := { name := "schemaChecks", fn := fun _ => fun
  | [d1, d2] => { results := [.lit (.bool true)], args := [d1, d2] }
  | _ => none }
def schemaChecksRow : OpenClaim := { program := "ytfiplongnnkhmaa", sum := "ce98d0a1ce951b6e9b57190f59aec7e698ab7a317e63818085626fc00128a897", func := "daybook/daybooklaw06.SchemaChecks", spec := "schemaChecks", unfollowed := true, recurses := true, apart := false }
def SchemaChecksSaid : Prop := schemaChecksRow.holds Try.pinned (OpenSpec.ofChange schemaChecksSpec)

/-- ITS FALSE NEIGHBOUR: 'it returns false'. Refute it at one input. -/
def schemaChecksWrong : ChangeSpec := { name := "schemaChecks", fn := fun _ => fun
  | [d1, d2] => { results := [.lit (.bool false)], args := [d1, d2] }
  | _ => none }
def SchemaChecksWrongFalsely : Prop := schemaChecksRow.holds Try.pinned (OpenSpec.ofChange schemaChecksWrong)

/-- 'daybooklaw06.SchemaEncodes': WHATEVER THE INPUT: true; the input reads as it did. -/
def schemaEncodesSpec : ChangeSpec := { name := "schemaEncodes", fn := fun _ => fun
  | [d1, d2] => { results := [.lit (.bool true)], args := [d1, d2] }
  | _ => none }
def schemaEncodesRow : OpenClaim := { program := "ytfiplongnnkhmaa", sum := "ce98d0a1ce951b6e9b57190f59aec7e698ab7a317e63818085626fc00128a897", func := "daybook/daybooklaw06.SchemaEncodes", spec := "schemaEncodes", unfollowed := true, recurses := true, apart := false }
def SchemaEncodesSaid : Prop := schemaEncodesRow.holds Try.pinned (OpenSpec.ofChange schemaEncodesSpec)

/-- ITS FALSE NEIGHBOUR: 'it returns false'. Refute it at one input. -/
def schemaEncodesWrong : ChangeSpec := { name := "schemaEncodes", fn := fun _ => fun
  | [d1, d2] => { results := [.lit (.bool false)], args := [d1, d2] }
  | _ => none }
def SchemaEncodesWrongFalsely : Prop := schemaEncodesRow.holds Try.pinned (OpenSpec.ofChange schemaEncodesWrong)

/-- 'daybooklaw06.SchemaDecodes': WHATEVER THE INPUT: true; the input reads as it did. -/
def schemaDecodesSpec : ChangeSpec := { name := "schemaDecodes", fn := fun _ => fun
  | [d1, d2] => { results := [.lit (.bool true)], args := [d1, d2] }
  | _ => none }
def schemaDecodesRow : OpenClaim := { program := "ytfiplongnnkhmaa", sum := "ce98d0a1ce951b6e9b57190f59aec7e698ab7a317e63818085626fc00128a897", func := "daybook/daybooklaw06.SchemaDecodes", spec := "schemaDecodes", unfollowed := true, recurses := true, apart := false }
def SchemaDecodesSaid : Prop := schemaDecodesRow.holds Try.pinned (OpenSpec.ofChange schemaDecodesSpec)

/-- ITS FALSE NEIGHBOUR: 'it returns false'. Refute it at one input. -/
def schemaDecodesWrong : ChangeSpec := { name := "schemaDecodes", fn := fun _ => fun
  | [d1, d2] => { results := [.lit (.bool false)], args := [d1, d2] }
  | _ => none }
def SchemaDecodesWrongFalsely : Prop := schemaDecodesRow.holds Try.pinned (OpenSpec.ofChange schemaDecodesWrong)

/-- 'daybooklaw06.SchemaBack': WHATEVER THE INPUT: true; the input reads as it did. -/
def schemaBackSpec : ChangeSpec := { name := "schemaBack", fn := fun _ => fun
  | [d1, d2] => { results := [.lit (.bool true)], args := [d1, d2] }
  | _ => none }
def schemaBackRow : OpenClaim := { program := "ytfiplongnnkhmaa", sum := "ce98d0a1ce951b6e9b57190f59aec7e698ab7a317e63818085626fc00128a897", func := "daybook/daybooklaw06.SchemaBack", spec := "schemaBack", unfollowed := true, recurses := true, apart := false }
def SchemaBackSaid : Prop := schemaBackRow.holds Try.pinned (OpenSpec.ofChange schemaBackSpec)

/-- ITS FALSE NEIGHBOUR: 'it returns false'. Refute it at one input. -/
def schemaBackWrong : ChangeSpec := { name := "schemaBack", fn := fun _ => fun
  | [d1, d2] => { results := [.lit (.bool false)], args := [d1, d2] }
  | _ => none }
def SchemaBackWrongFalsely : Prop := schemaBackRow.holds Try.pinned (OpenSpec.ofChange schemaBackWrong)

/-- 'daybooklaw06.SchemaOneForm': WHATEVER THE INPUT: true; the input reads as it did. -/
def schemaOneFormSpec : ChangeSpec := { name := "schemaOneForm", fn := fun _ => fun
  | [d] => { results := [.lit (.bool true)], args := [d] }
  | _ => none }
def schemaOneFormRow : OpenClaim := { program := "ytfiplongnnkhmaa", sum := "ce98d0a1ce951b6e9b57190f59aec7e698ab7a317e63818085626fc00128a897", func := "daybook/daybooklaw06.SchemaOneForm", spec := "schemaOneForm", unfollowed := true, recurses := true, apart := false }
def SchemaOneFormSaid : Prop := schemaOneFormRow.holds Try.pinned (OpenSpec.ofChange schemaOneFormSpec)

/-- ITS FALSE NEIGHBOUR: 'it returns false'. Refute it at one input. -/
def schemaOneFormWrong : ChangeSpec := { name := "schemaOneForm", fn := fun _ => fun
  | [d] => { results := [.lit (.bool false)], args := [d] }
  | _ => none }
def SchemaOneFormWrongFalsely : Prop := schemaOneFormRow.holds Try.pinned (OpenSpec.ofChange schemaOneFormWrong)

/-- 'daybooklaw06.SchemaPacks': WHATEVER THE INPUT: true; the input reads as it did. -/
def schemaPacksSpec : ChangeSpec := { name := "schemaPacks", fn := fun _ => fun
  | [d1, d2, d3] => { results := [.lit (.bool true)], args := [d1, d2, d3] }
  | _ => none }
def schemaPacksRow : OpenClaim := { program := "ytfiplongnnkhmaa", sum := "ce98d0a1ce951b6e9b57190f59aec7e698ab7a317e63818085626fc00128a897", func := "daybook/daybooklaw06.SchemaPacks", spec := "schemaPacks", unfollowed := true, recurses := true, apart := false }
def SchemaPacksSaid : Prop := schemaPacksRow.holds Try.pinned (OpenSpec.ofChange schemaPacksSpec)

/-- ITS FALSE NEIGHBOUR: 'it returns false'. Refute it at one input. -/
def schemaPacksWrong : ChangeSpec := { name := "schemaPacks", fn := fun _ => fun
  | [d1, d2, d3] => { results := [.lit (.bool false)], args := [d1, d2, d3] }
  | _ => none }
def SchemaPacksWrongFalsely : Prop := schemaPacksRow.holds Try.pinned (OpenSpec.ofChange schemaPacksWrong)

/-- 'daybooklaw06.SchemaUnlike': WHATEVER THE INPUT: true; the input reads as it did. -/
def schemaUnlikeSpec : ChangeSpec := { name := "schemaUnlike", fn := fun _ => fun
  | [d1, d2, d3, d4] => { results := [.lit (.bool true)], args := [d1, d2, d3, d4] }
  | _ => none }
def schemaUnlikeRow : OpenClaim := { program := "ytfiplongnnkhmaa", sum := "ce98d0a1ce951b6e9b57190f59aec7e698ab7a317e63818085626fc00128a897", func := "daybook/daybooklaw06.SchemaUnlike", spec := "schemaUnlike", unfollowed := true, recurses := true, apart := false }
def SchemaUnlikeSaid : Prop := schemaUnlikeRow.holds Try.pinned (OpenSpec.ofChange schemaUnlikeSpec)

/-- ITS FALSE NEIGHBOUR: 'it returns false'. Refute it at one input. -/
def schemaUnlikeWrong : ChangeSpec := { name := "schemaUnlike", fn := fun _ => fun
  | [d1, d2, d3, d4] => { results := [.lit (.bool false)], args := [d1, d2, d3, d4] }
  | _ => none }
def SchemaUnlikeWrongFalsely : Prop := schemaUnlikeRow.holds Try.pinned (OpenSpec.ofChange schemaUnlikeWrong)

/-- 'daybooklaw06.SchemaGrows': WHATEVER THE INPUT: true; the input reads as it did. -/
def schemaGrowsSpec : ChangeSpec := { name := "schemaGrows", fn := fun _ => fun
  | [d1, d2] => { results := [.lit (.bool true)], args := [d1, d2] }
  | _ => none }
def schemaGrowsRow : OpenClaim := { program := "ytfiplongnnkhmaa", sum := "ce98d0a1ce951b6e9b57190f59aec7e698ab7a317e63818085626fc00128a897", func := "daybook/daybooklaw06.SchemaGrows", spec := "schemaGrows", unfollowed := true, recurses := true, apart := false }
def SchemaGrowsSaid : Prop := schemaGrowsRow.holds Try.pinned (OpenSpec.ofChange schemaGrowsSpec)

/-- ITS FALSE NEIGHBOUR: 'it returns false'. Refute it at one input. -/
def schemaGrowsWrong : ChangeSpec := { name := "schemaGrows", fn := fun _ => fun
  | [d1, d2] => { results := [.lit (.bool false)], args := [d1, d2] }
  | _ => none }
def SchemaGrowsWrongFalsely : Prop := schemaGrowsRow.holds Try.pinned (OpenSpec.ofChange schemaGrowsWrong)

/- THE SECOND FORM. 'bulk': how many values and letters a reading holds, each counted each time it is reached (what is shared counts as often as it is met; a slice's spare places count too). A statement '..UptoSaid' is the law's where the arguments, and the package variables that the reading takes, are together of bulk at most 1048576: NARROWER than '..Said'. Prove '..Said' where nothing that the law and all that it calls make is longer than what came in: it says more and counts as full. Else prove '..UptoSaid'. A law counts once. -/
mutual
def uptoBulk {H : Type} : DataW H → Nat
  | .lit (.string bytes) => bytes.length + 1
  | .lit _ => 1
  | .nil => 1
  | .ptr d => uptoBulk d + 1
  | .slice elems spare => uptoBulkAll elems + uptoBulkAll spare + 1
  | .agg parts => uptoBulkAll parts + 1
  | .iface _ d => uptoBulk d + 1
  | .map entries => uptoBulkEntries entries + 1
  | .held _ => 1
def uptoBulkAll {H : Type} : List (DataW H) → Nat
  | [] => 0
  | d :: r => uptoBulk d + uptoBulkAll r
def uptoBulkEntries {H : Type} : List (Lit × DataW H) → Nat
  | [] => 0
  | x :: r => uptoBulkEntry x + uptoBulkEntries r
def uptoBulkEntry {H : Type} : Lit × DataW H → Nat
  | (.string bytes, d) => bytes.length + uptoBulk d + 1
  | (_, d) => uptoBulk d + 1
 end
def uptoSmall : (H : Type) → List (DataW H) → Bool := fun _ ds => decide (uptoBulkAll ds ≤ 1048576)
def OpenSpec.upto (s : _root_.Go.ChangeSpec) : _root_.Go.OpenSpec := { _root_.Go.OpenSpec.ofChange s with cond := some uptoSmall }

/-- 'daybooklaw06.SchemaChecks', WHERE WHAT IT READS IS OF BULK AT MOST 1048576: true; the input reads as it did. -/
def schemaChecksUptoRow : OpenClaim := { program := "ytfiplongnnkhmaa", sum := "ce98d0a1ce951b6e9b57190f59aec7e698ab7a317e63818085626fc00128a897", func := "daybook/daybooklaw06.SchemaChecks", spec := "schemaChecks", unfollowed := true, recurses := true, apart := false, narrowed := true }
def SchemaChecksUptoSaid : Prop := schemaChecksUptoRow.holds Try.pinned (OpenSpec.upto schemaChecksSpec)

/-- 'daybooklaw06.SchemaEncodes', WHERE WHAT IT READS IS OF BULK AT MOST 1048576: true; the input reads as it did. -/
def schemaEncodesUptoRow : OpenClaim := { program := "ytfiplongnnkhmaa", sum := "ce98d0a1ce951b6e9b57190f59aec7e698ab7a317e63818085626fc00128a897", func := "daybook/daybooklaw06.SchemaEncodes", spec := "schemaEncodes", unfollowed := true, recurses := true, apart := false, narrowed := true }
def SchemaEncodesUptoSaid : Prop := schemaEncodesUptoRow.holds Try.pinned (OpenSpec.upto schemaEncodesSpec)

/-- 'daybooklaw06.SchemaDecodes', WHERE WHAT IT READS IS OF BULK AT MOST 1048576: true; the input reads as it did. -/
def schemaDecodesUptoRow : OpenClaim := { program := "ytfiplongnnkhmaa", sum := "ce98d0a1ce951b6e9b57190f59aec7e698ab7a317e63818085626fc00128a897", func := "daybook/daybooklaw06.SchemaDecodes", spec := "schemaDecodes", unfollowed := true, recurses := true, apart := false, narrowed := true }
def SchemaDecodesUptoSaid : Prop := schemaDecodesUptoRow.holds Try.pinned (OpenSpec.upto schemaDecodesSpec)

/-- 'daybooklaw06.SchemaBack', WHERE WHAT IT READS IS OF BULK AT MOST 1048576: true; the input reads as it did. -/
def schemaBackUptoRow : OpenClaim := { program := "ytfiplongnnkhmaa", sum := "ce98d0a1ce951b6e9b57190f59aec7e698ab7a317e63818085626fc00128a897", func := "daybook/daybooklaw06.SchemaBack", spec := "schemaBack", unfollowed := true, recurses := true, apart := false, narrowed := true }
def SchemaBackUptoSaid : Prop := schemaBackUptoRow.holds Try.pinned (OpenSpec.upto schemaBackSpec)

/-- 'daybooklaw06.SchemaOneForm', WHERE WHAT IT READS IS OF BULK AT MOST 1048576: true; the input reads as it did. -/
def schemaOneFormUptoRow : OpenClaim := { program := "ytfiplongnnkhmaa", sum := "ce98d0a1ce951b6e9b57190f59aec7e698ab7a317e63818085626fc00128a897", func := "daybook/daybooklaw06.SchemaOneForm", spec := "schemaOneForm", unfollowed := true, recurses := true, apart := false, narrowed := true }
def SchemaOneFormUptoSaid : Prop := schemaOneFormUptoRow.holds Try.pinned (OpenSpec.upto schemaOneFormSpec)

/-- 'daybooklaw06.SchemaPacks', WHERE WHAT IT READS IS OF BULK AT MOST 1048576: true; the input reads as it did. -/
def schemaPacksUptoRow : OpenClaim := { program := "ytfiplongnnkhmaa", sum := "ce98d0a1ce951b6e9b57190f59aec7e698ab7a317e63818085626fc00128a897", func := "daybook/daybooklaw06.SchemaPacks", spec := "schemaPacks", unfollowed := true, recurses := true, apart := false, narrowed := true }
def SchemaPacksUptoSaid : Prop := schemaPacksUptoRow.holds Try.pinned (OpenSpec.upto schemaPacksSpec)

/-- 'daybooklaw06.SchemaUnlike', WHERE WHAT IT READS IS OF BULK AT MOST 1048576: true; the input reads as it did. -/
def schemaUnlikeUptoRow : OpenClaim := { program := "ytfiplongnnkhmaa", sum := "ce98d0a1ce951b6e9b57190f59aec7e698ab7a317e63818085626fc00128a897", func := "daybook/daybooklaw06.SchemaUnlike", spec := "schemaUnlike", unfollowed := true, recurses := true, apart := false, narrowed := true }
def SchemaUnlikeUptoSaid : Prop := schemaUnlikeUptoRow.holds Try.pinned (OpenSpec.upto schemaUnlikeSpec)

/-- 'daybooklaw06.SchemaGrows', WHERE WHAT IT READS IS OF BULK AT MOST 1048576: true; the input reads as it did. -/
def schemaGrowsUptoRow : OpenClaim := { program := "ytfiplongnnkhmaa", sum := "ce98d0a1ce951b6e9b57190f59aec7e698ab7a317e63818085626fc00128a897", func := "daybook/daybooklaw06.SchemaGrows", spec := "schemaGrows", unfollowed := true, recurses := true, apart := false, narrowed := true }
def SchemaGrowsUptoSaid : Prop := schemaGrowsUptoRow.holds Try.pinned (OpenSpec.upto schemaGrowsSpec)

end Rows
end Go.Proofs.Ytfiplongnnkhmaa
