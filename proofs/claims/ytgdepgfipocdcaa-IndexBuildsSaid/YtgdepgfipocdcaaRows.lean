/-
  No cell of these rows narrows 'for every input' (looked for: loops, veiled, ifaces, maps, wideKeys, modest, calm, conditions, laid).
  DERIVED. THE GIVEN ROWS OF THIS SEAT. 7 by the template 'for every input the law returns true; each argument reads behind the call as it read before'; 0 by the template 'total and deterministic' (their statements: YtgdepgfipocdcaaTotals.lean).
  GIVEN WITH THE SEED: the statements are not yours to turn. If you find one false, say at which input.
  Laid BY PROGRAM, IN A SANDBOX (cutbox-rows.mjs): the forced cells as the released guide's own fill.sh prints them over the translation 4cba571abafd8f88… (all of the seat's roots in one cut). By AI agents, Wed Nov 11 2026. No macro, syntax, notation, axiom, sorry.
-/
import Derived.Test.YtgdepgfipocdcaaChecked
import GoSem.Claim
import GoSem.ClaimJoined
import GoSem.ClaimMapViews
import Derived.JoinedTies
import Derived.KernelRfl
namespace Go.Proofs.Ytgdepgfipocdcaa
/- THE CELL 'sum', in the pinned program and in every row, IS THE sha256 OF THE DUMP (.gsa) THAT YtgdepgfipocdcaaProg.lean LOADS. Nothing in Lean hashes anything: it is a label: what it is worth is what the hold of that sum in a sandbox is worth. -/
noncomputable def Try.pinned : Pinned := { name := "ytgdepgfipocdcaa", sum := "4cba571abafd8f88f6186d6868cd045c06a5992b384c0e3ac2689b9a69c181c4", checked := Try.checked }
namespace Rows
def none {H : Type} : Left H := { results := [], args := [] }

/-- 'daybooklaw13.IndexLast': WHATEVER THE INPUT: true; the input reads as it did. -/
def indexLastSpec : ChangeSpec := { name := "indexLast", fn := fun _ => fun
  | [d1, d2] => { results := [.lit (.bool true)], args := [d1, d2] }
  | _ => none }
def indexLastRow : OpenClaim := { program := "ytgdepgfipocdcaa", sum := "4cba571abafd8f88f6186d6868cd045c06a5992b384c0e3ac2689b9a69c181c4", func := "daybook/daybooklaw13.IndexLast", spec := "indexLast", unfollowed := true, recurses := true, apart := false }
def IndexLastSaid : Prop := indexLastRow.holds Try.pinned (OpenSpec.ofChange indexLastSpec)

/-- ITS FALSE NEIGHBOUR: 'it returns false'. Refute it at one input. -/
def indexLastWrong : ChangeSpec := { name := "indexLast", fn := fun _ => fun
  | [d1, d2] => { results := [.lit (.bool false)], args := [d1, d2] }
  | _ => none }
def IndexLastWrongFalsely : Prop := indexLastRow.holds Try.pinned (OpenSpec.ofChange indexLastWrong)

/-- 'daybooklaw13.IndexSeeks': WHATEVER THE INPUT: true; the input reads as it did. -/
def indexSeeksSpec : ChangeSpec := { name := "indexSeeks", fn := fun _ => fun
  | [d1, d2] => { results := [.lit (.bool true)], args := [d1, d2] }
  | _ => none }
def indexSeeksRow : OpenClaim := { program := "ytgdepgfipocdcaa", sum := "4cba571abafd8f88f6186d6868cd045c06a5992b384c0e3ac2689b9a69c181c4", func := "daybook/daybooklaw13.IndexSeeks", spec := "indexSeeks", unfollowed := true, recurses := true, apart := false }
def IndexSeeksSaid : Prop := indexSeeksRow.holds Try.pinned (OpenSpec.ofChange indexSeeksSpec)

/-- ITS FALSE NEIGHBOUR: 'it returns false'. Refute it at one input. -/
def indexSeeksWrong : ChangeSpec := { name := "indexSeeks", fn := fun _ => fun
  | [d1, d2] => { results := [.lit (.bool false)], args := [d1, d2] }
  | _ => none }
def IndexSeeksWrongFalsely : Prop := indexSeeksRow.holds Try.pinned (OpenSpec.ofChange indexSeeksWrong)

/-- 'daybooklaw13.IndexBuilds': WHATEVER THE INPUT: true; the input reads as it did. -/
def indexBuildsSpec : ChangeSpec := { name := "indexBuilds", fn := fun _ => fun
  | [d1, d2, d3] => { results := [.lit (.bool true)], args := [d1, d2, d3] }
  | _ => none }
def indexBuildsRow : OpenClaim := { program := "ytgdepgfipocdcaa", sum := "4cba571abafd8f88f6186d6868cd045c06a5992b384c0e3ac2689b9a69c181c4", func := "daybook/daybooklaw13.IndexBuilds", spec := "indexBuilds", unfollowed := true, recurses := true, apart := false }
def IndexBuildsSaid : Prop := indexBuildsRow.holds Try.pinned (OpenSpec.ofChange indexBuildsSpec)

/-- ITS FALSE NEIGHBOUR: 'it returns false'. Refute it at one input. -/
def indexBuildsWrong : ChangeSpec := { name := "indexBuilds", fn := fun _ => fun
  | [d1, d2, d3] => { results := [.lit (.bool false)], args := [d1, d2, d3] }
  | _ => none }
def IndexBuildsWrongFalsely : Prop := indexBuildsRow.holds Try.pinned (OpenSpec.ofChange indexBuildsWrong)

/-- 'daybooklaw13.IndexNear': WHATEVER THE INPUT: true; the input reads as it did. -/
def indexNearSpec : ChangeSpec := { name := "indexNear", fn := fun _ => fun
  | [d1, d2, d3, d4] => { results := [.lit (.bool true)], args := [d1, d2, d3, d4] }
  | _ => none }
def indexNearRow : OpenClaim := { program := "ytgdepgfipocdcaa", sum := "4cba571abafd8f88f6186d6868cd045c06a5992b384c0e3ac2689b9a69c181c4", func := "daybook/daybooklaw13.IndexNear", spec := "indexNear", unfollowed := true, recurses := true, apart := false }
def IndexNearSaid : Prop := indexNearRow.holds Try.pinned (OpenSpec.ofChange indexNearSpec)

/-- ITS FALSE NEIGHBOUR: 'it returns false'. Refute it at one input. -/
def indexNearWrong : ChangeSpec := { name := "indexNear", fn := fun _ => fun
  | [d1, d2, d3, d4] => { results := [.lit (.bool false)], args := [d1, d2, d3, d4] }
  | _ => none }
def IndexNearWrongFalsely : Prop := indexNearRow.holds Try.pinned (OpenSpec.ofChange indexNearWrong)

/-- 'daybooklaw13.IndexCodes': WHATEVER THE INPUT: true; the input reads as it did. -/
def indexCodesSpec : ChangeSpec := { name := "indexCodes", fn := fun _ => fun
  | [d1, d2] => { results := [.lit (.bool true)], args := [d1, d2] }
  | _ => none }
def indexCodesRow : OpenClaim := { program := "ytgdepgfipocdcaa", sum := "4cba571abafd8f88f6186d6868cd045c06a5992b384c0e3ac2689b9a69c181c4", func := "daybook/daybooklaw13.IndexCodes", spec := "indexCodes", unfollowed := true, recurses := true, apart := false }
def IndexCodesSaid : Prop := indexCodesRow.holds Try.pinned (OpenSpec.ofChange indexCodesSpec)

/-- ITS FALSE NEIGHBOUR: 'it returns false'. Refute it at one input. -/
def indexCodesWrong : ChangeSpec := { name := "indexCodes", fn := fun _ => fun
  | [d1, d2] => { results := [.lit (.bool false)], args := [d1, d2] }
  | _ => none }
def IndexCodesWrongFalsely : Prop := indexCodesRow.holds Try.pinned (OpenSpec.ofChange indexCodesWrong)

/-- 'daybooklaw13.IndexBack': WHATEVER THE INPUT: true; the input reads as it did. -/
def indexBackSpec : ChangeSpec := { name := "indexBack", fn := fun _ => fun
  | [d] => { results := [.lit (.bool true)], args := [d] }
  | _ => none }
def indexBackRow : OpenClaim := { program := "ytgdepgfipocdcaa", sum := "4cba571abafd8f88f6186d6868cd045c06a5992b384c0e3ac2689b9a69c181c4", func := "daybook/daybooklaw13.IndexBack", spec := "indexBack", unfollowed := true, recurses := true, apart := false }
def IndexBackSaid : Prop := indexBackRow.holds Try.pinned (OpenSpec.ofChange indexBackSpec)

/-- ITS FALSE NEIGHBOUR: 'it returns false'. Refute it at one input. -/
def indexBackWrong : ChangeSpec := { name := "indexBack", fn := fun _ => fun
  | [d] => { results := [.lit (.bool false)], args := [d] }
  | _ => none }
def IndexBackWrongFalsely : Prop := indexBackRow.holds Try.pinned (OpenSpec.ofChange indexBackWrong)

/-- 'daybooklaw13.IndexOneForm': WHATEVER THE INPUT: true; the input reads as it did. -/
def indexOneFormSpec : ChangeSpec := { name := "indexOneForm", fn := fun _ => fun
  | [d] => { results := [.lit (.bool true)], args := [d] }
  | _ => none }
def indexOneFormRow : OpenClaim := { program := "ytgdepgfipocdcaa", sum := "4cba571abafd8f88f6186d6868cd045c06a5992b384c0e3ac2689b9a69c181c4", func := "daybook/daybooklaw13.IndexOneForm", spec := "indexOneForm", unfollowed := true, recurses := true, apart := false }
def IndexOneFormSaid : Prop := indexOneFormRow.holds Try.pinned (OpenSpec.ofChange indexOneFormSpec)

/-- ITS FALSE NEIGHBOUR: 'it returns false'. Refute it at one input. -/
def indexOneFormWrong : ChangeSpec := { name := "indexOneForm", fn := fun _ => fun
  | [d] => { results := [.lit (.bool false)], args := [d] }
  | _ => none }
def IndexOneFormWrongFalsely : Prop := indexOneFormRow.holds Try.pinned (OpenSpec.ofChange indexOneFormWrong)

/- THE SECOND FORM. 'bulk': how many values and letters a reading holds, each counted each time it is reached (what is shared counts as often as it is met; a slice's spare places count too). A statement '..UptoSaid' is the law's where the arguments, and the package variables that the reading takes, are together of bulk at most 1048576: NARROWER than '..Said'. Prove '..Said' where nothing that the law and all that it calls make is longer than what came in: it says more and counts as full. Else prove '..UptoSaid'. A law counts once. -/
mutual
def uptoBulk {H : Type} : DataW H → Nat
  | .lit (.string bytes) => bytes.length + 1
  | .lit _ => 1
  | .nil => 1
  | .ptr d => uptoBulk d + 1
  | .slice elems spare => uptoBulkAll elems + uptoBulkAll spare + 1
  | .agg parts => uptoBulkAll parts + 1
  | .iface _ d => uptoBulk d + 1
  | .map entries => uptoBulkEntries entries + 1
  | .held _ => 1
def uptoBulkAll {H : Type} : List (DataW H) → Nat
  | [] => 0
  | d :: r => uptoBulk d + uptoBulkAll r
def uptoBulkEntries {H : Type} : List (Lit × DataW H) → Nat
  | [] => 0
  | x :: r => uptoBulkEntry x + uptoBulkEntries r
def uptoBulkEntry {H : Type} : Lit × DataW H → Nat
  | (.string bytes, d) => bytes.length + uptoBulk d + 1
  | (_, d) => uptoBulk d + 1
 end
def uptoSmall : (H : Type) → List (DataW H) → Bool := fun _ ds => decide (uptoBulkAll ds ≤ 1048576)
def OpenSpec.upto (s : _root_.Go.ChangeSpec) : _root_.Go.OpenSpec := { _root_.Go.OpenSpec.ofChange s with cond := some uptoSmall }

/-- 'daybooklaw13.IndexLast', WHERE WHAT IT READS IS OF BULK AT MOST 1048576: true; the input reads as it did. -/
def indexLastUptoRow : OpenClaim := { program := "ytgdepgfipocdcaa", sum := "4cba571abafd8f88f6186d6868cd045c06a5992b384c0e3ac2689b9a69c181c4", func := "daybook/daybooklaw13.IndexLast", spec := "indexLast", unfollowed := true, recurses := true, apart := false, narrowed := true }
def IndexLastUptoSaid : Prop := indexLastUptoRow.holds Try.pinned (OpenSpec.upto indexLastSpec)

/-- 'daybooklaw13.IndexSeeks', WHERE WHAT IT READS IS OF BULK AT MOST 1048576: true; the input reads as it did. -/
def indexSeeksUptoRow : OpenClaim := { program := "ytgdepgfipocdcaa", sum := "4cba571abafd8f88f6186d6868cd045c06a5992b384c0e3ac2689b9a69c181c4", func := "daybook/daybooklaw13.IndexSeeks", spec := "indexSeeks", unfollowed := true, recurses := true, apart := false, narrowed := true }
def IndexSeeksUptoSaid : Prop := indexSeeksUptoRow.holds Try.pinned (OpenSpec.upto indexSeeksSpec)

/-- 'daybooklaw13.IndexBuilds', WHERE WHAT IT READS IS OF BULK AT MOST 1048576: true; the input reads as it did. -/
def indexBuildsUptoRow : OpenClaim := { program := "ytgdepgfipocdcaa", sum := "4cba571abafd8f88f6186d6868cd045c06a5992b384c0e3ac2689b9a69c181c4", func := "daybook/daybooklaw13.IndexBuilds", spec := "indexBuilds", unfollowed := true, recurses := true, apart := false, narrowed := true }
def IndexBuildsUptoSaid : Prop := indexBuildsUptoRow.holds Try.pinned (OpenSpec.upto indexBuildsSpec)

/-- 'daybooklaw13.IndexNear', WHERE WHAT IT READS IS OF BULK AT MOST 1048576: true; the input reads as it did. -/
def indexNearUptoRow : OpenClaim := { program := "ytgdepgfipocdcaa", sum := "4cba571abafd8f88f6186d6868cd045c06a5992b384c0e3ac2689b9a69c181c4", func := "daybook/daybooklaw13.IndexNear", spec := "indexNear", unfollowed := true, recurses := true, apart := false, narrowed := true }
def IndexNearUptoSaid : Prop := indexNearUptoRow.holds Try.pinned (OpenSpec.upto indexNearSpec)

/-- 'daybooklaw13.IndexCodes', WHERE WHAT IT READS IS OF BULK AT MOST 1048576: true; the input reads as it did. -/
def indexCodesUptoRow : OpenClaim := { program := "ytgdepgfipocdcaa", sum := "4cba571abafd8f88f6186d6868cd045c06a5992b384c0e3ac2689b9a69c181c4", func := "daybook/daybooklaw13.IndexCodes", spec := "indexCodes", unfollowed := true, recurses := true, apart := false, narrowed := true }
def IndexCodesUptoSaid : Prop := indexCodesUptoRow.holds Try.pinned (OpenSpec.upto indexCodesSpec)

/-- 'daybooklaw13.IndexBack', WHERE WHAT IT READS IS OF BULK AT MOST 1048576: true; the input reads as it did. -/
def indexBackUptoRow : OpenClaim := { program := "ytgdepgfipocdcaa", sum := "4cba571abafd8f88f6186d6868cd045c06a5992b384c0e3ac2689b9a69c181c4", func := "daybook/daybooklaw13.IndexBack", spec := "indexBack", unfollowed := true, recurses := true, apart := false, narrowed := true }
def IndexBackUptoSaid : Prop := indexBackUptoRow.holds Try.pinned (OpenSpec.upto indexBackSpec)

/-- 'daybooklaw13.IndexOneForm', WHERE WHAT IT READS IS OF BULK AT MOST 1048576: true; the input reads as it did. -/
def indexOneFormUptoRow : OpenClaim := { program := "ytgdepgfipocdcaa", sum := "4cba571abafd8f88f6186d6868cd045c06a5992b384c0e3ac2689b9a69c181c4", func := "daybook/daybooklaw13.IndexOneForm", spec := "indexOneForm", unfollowed := true, recurses := true, apart := false, narrowed := true }
def IndexOneFormUptoSaid : Prop := indexOneFormUptoRow.holds Try.pinned (OpenSpec.upto indexOneFormSpec)

end Rows
end Go.Proofs.Ytgdepgfipocdcaa
