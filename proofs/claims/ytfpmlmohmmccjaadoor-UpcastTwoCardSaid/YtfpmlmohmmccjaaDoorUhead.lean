/-
  The walk of the layer's head, printed by genulaw2.py. Condition: the program's table of taxes holds what its text lays.
-/
import Derived.Test.YtfpmlmohmmccjaaDoorUto
namespace Go.Proofs.YtfpmlmohmmccjaaDoor
open Go.RowKit
set_option linter.unusedVariables false

theorem wpList_load_rowW {P : Program} {ops : Array Oper} {rest : List Oper} {o : Oper} {a : Act} {w : World} {Q : Exit → Act → World → Prop} (hw : Region.wanted o (yielded ops a.tmps) = true) (ty : TypeId) (x : Operand) (ho : o.op = .load ty x)
    (g : Nat) (hx : a.eval x = .pointer (some ⟨g, 0, none⟩)) (t : TypeId) (cs : Array Value) (fr : Nat × Nat) (d : TypeDesc) (hg : w.heap[g]? = some (.cells cs t fr))
    (hu : P.underlying ty = some d) (hd : (match d with | .struct _ | .array _ _ => true | _ => false) = true) (hi : (P.info? ty).map (·.size) = some cs.size)
    (h : wpList P ops Q rest (a.put o.dst (.agg cs)) w) : wpList P ops Q (o :: rest) a w :=
  wpList_step fun K hK => by
    rw [if_pos hw]
    exact wp_load_row ty x ho g hx t cs fr d hg hu hd hi (hK _ _ h)

theorem head_chk : chk 1 ⟨2, 7, 3, -2, 5, 0, 0, ⟨#[]⟩, 0, ⟨#[]⟩⟩ = 0 := by decide
theorem head_any (w : World) (ht : Tab w) : Calls Tryd.prog 10 #[] w fun x w' => x = .returned (.bool true) ∧ Below w.heap.size w w' := by
  have hc := fun (wx : World) (htx : Tab wx) => chain_any 1 ⟨2, 7, 3, -2, 5, 0, 0, ⟨#[]⟩, 0, ⟨#[]⟩⟩ wx htx
  obtain ⟨h1, h2⟩ := to_ok (f := 1) (t := 5) (by decide) head_chk
  rw [h1, h2, show Ev.steps (5 - 1 : Int).toNat 1 ⟨2, 7, 3, -2, 5, 0, 0, ⟨#[]⟩, 0, ⟨#[]⟩⟩ = ⟨6, 7, 3, 2, 500, 0, 0, ⟨#[111, 108, 100]⟩, 0, ⟨#[]⟩⟩ from rfl] at hc
  unfold pairV Ev.val Ev.cells at hc
  have HC := Lib.hid hc
  clear hc h1 h2
  go_enter Tryd.func10, Tryd.ntmps10
  go_wp2_with fail
  (with_reducible refine (HC.out _ ht).mono ?_)
  rintro x w1 ⟨rfl, hb1⟩
  go_wp2_with fail
  go_ret
  exact ⟨rfl, below_next hb1 (below_made _ _)⟩
end Go.Proofs.YtfpmlmohmmccjaaDoor
