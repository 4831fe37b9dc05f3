/-
  An event of any version as a value: ten cells. No condition.
-/
import Derived.Test.YtfpmlmohmmccjaaDoorMem
namespace Go.Proofs.YtfpmlmohmmccjaaDoor
open Go.RowKit
set_option linter.unusedVariables false

structure Ev where
  kind : Int
  order : Int
  item : Int
  qty : Int
  price : Int
  cur : Int
  tax : Int
  who : ByteArray
  stamp : Int
  note : ByteArray
instance : Inhabited Ev := ⟨⟨0, 0, 0, 0, 0, 0, 0, ByteArray.empty, 0, ByteArray.empty⟩⟩

def i64b (x : Int) : Prop := -9223372036854775808 ≤ x ∧ x ≤ 9223372036854775807
/-- The numbers fit their kind; the texts are no longer than a text may be. -/
structure Ev.ok (e : Ev) : Prop where
  kind : i64b e.kind
  order : i64b e.order
  item : i64b e.item
  qty : i64b e.qty
  price : i64b e.price
  cur : i64b e.cur
  tax : i64b e.tax
  who : e.who.size ≤ maxLen
  stamp : i64b e.stamp
  note : e.note.size ≤ maxLen

def Ev.cells (e : Ev) : Array Value := #[.int .i64 e.kind, .int .i64 e.order, .int .i64 e.item, .int .i64 e.qty, .int .i64 e.price, .int .i64 e.cur, .int .i64 e.tax, .string e.who, .int .i64 e.stamp, .string e.note]
def Ev.val (e : Ev) : Value := .agg e.cells
end Go.Proofs.YtfpmlmohmmccjaaDoor
