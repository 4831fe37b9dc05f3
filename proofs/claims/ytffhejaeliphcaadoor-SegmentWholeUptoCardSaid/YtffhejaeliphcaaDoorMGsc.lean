/-
  What a walk over a segment's bytes answers, and what such walks share. No condition.
-/
import Derived.Test.YtffhejaeliphcaaDoorMGs
import Derived.Test.YtffhejaeliphcaaDoorMGcl
import Derived.Test.YtffhejaeliphcaaDoorMIk
import Derived.Test.YtffhejaeliphcaaDoorMPrn
import Derived.Test.YtffhejaeliphcaaDoorMHw
namespace Go.Proofs.YtffhejaeliphcaaDoor
open Go.RowKit
set_option linter.unusedVariables false

def sgRow (s : Sg) (m : Value) : Array Value := #[.int .i64 (s.num : Int), .int .i64 (s.first : Int), .int .i64 (s.count : Int), .bool s.sealed, .int .i64 (s.stride : Int), m, .int .i64 (s.good : Int)]
theorem info_sg : (Tryd.prog.info? 27).map (·.size) = some 7 := by kernel_rfl
theorem results_ctt {fn : Func} {p u v : Tmp} {ty : TypeId} (h : fn.results = #[.cell p ty, .tmp u, .tmp v]) (tmps : Array Value) (P : Program) (w : World) :
    (results fn tmps).run P w =
      ((asAddr (tmps.getD p undef)).run P w).andThen fun a w₁ => ((loadVar ty a).run P w₁).andThen fun x w₂ => .ok (.tuple #[x, tmps.getD u undef, tmps.getD v undef]) w₂ := by
  simp only [results, h]
  simp [Sem.run_bind, Result.andThen]
theorem ret_sg {fn : Func} {p u s : Tmp} {cs : Array Value} {tmps : Array Value} {w : World} {g : Nat} {e : TypeId} (h : fn.results = #[.cell p 27, .tmp u, .tmp s]) (hp : tmps.getD p undef = .pointer (some ⟨g, 0, none⟩)) (hg : w.heap[g]? = some (.cells cs e (0, 0))) (hs : cs.size = 7) {v z : Value} (hv : tmps.getD u undef = v) (hz : tmps.getD s undef = z) :
    (results fn tmps).run Tryd.prog w = .ok (.tuple #[.agg cs, v, z]) w := by
  subst hv
  subst hz
  rw [results_ctt h, hp]
  have hl := run_loadVar_row (P := Tryd.prog) w g e 27 cs (0, 0) _ hg Tryd.underlying27 rfl (by rw [hs]; exact info_sg)
  simp [asAddr, hl]
/-- What a scan of a segment gives. -/
def GivesSeg (w : World) (x : Sg × List Pc × Nat) (e : Ending) (w' : World) : Prop :=
  ∃ xs a cap am cm, xs.map It.q = x.2.1 ∧ e = .returned (.tuple #[.agg (sgRow x.1 (.slice am x.1.marks.length cm)), .slice a xs.length cap, .int .i64 (x.2.2 : Int)]) ∧
    PlsAt w.heap.size (.slice a xs.length cap) xs w' ∧ w'.ownsRow w.heap.size 67 2 (.slice am x.1.marks.length cm) x.1.marks.length (x.1.marks.flatMap Mk.cells) ∧ Below w.heap.size w w'
theorem PlsAt.below {lo : Nat} {v : Value} {xs : List It} {W W' : World} (h : PlsAt lo v xs W) (hb : Below W.heap.size W W') : PlsAt lo v xs W' := ⟨own_below h.1 hb, fun x hx => own_below (h.2 x hx) hb⟩
theorem PlsAt.lower {lo lo' : Nat} {v : Value} {xs : List It} {W : World} (h : PlsAt lo v xs W) (hl : lo' ≤ lo) : PlsAt lo' v xs W := ⟨own_mono h.1 hl, fun x hx => own_mono (h.2 x hx) hl⟩
/-- A row, where another block is written. -/
theorem own_set {W : World} {lo : Nat} {e : TypeId} {size : Nat} {v : Value} {n : Nat} {xs : List Value} (h : W.ownsRow lo e size v n xs) {g : Nat} (cs : Array Value) (hg : g < lo) : (W.setRow g cs).ownsRow lo e size v n xs :=
  own_on h fun k c _ hb hw => (setRow_other W g k cs (by omega)).trans hw
theorem PlsAt.set {lo : Nat} {v : Value} {xs : List It} {W : World} (h : PlsAt lo v xs W) {g : Nat} (cs : Array Value) (hg : g < lo) : PlsAt lo v xs (W.setRow g cs) := ⟨own_set h.1 cs hg, fun x hx => own_set (h.2 x hx) cs hg⟩
theorem PlsAt.nil (lo : Nat) (W : World) : PlsAt lo (.slice none 0 0) [] W := ⟨World.ownsRow_nil _ _ _ _, fun x hx => by cases hx⟩
def It.pl (x : It) : Pl := ⟨x.q.at', x.q.size, x.q.f.kind, x.q.f.seq, x.a, x.q.f.body.length, x.c⟩
theorem pl_cells (xs : List It) : (xs.map It.pl).flatMap Pl.cells = xs.flatMap It.cells := by
  rw [List.flatMap_map]; rfl
theorem pl_marks (xs : List It) (s : Nat) : every s 0 (xs.map It.pl) = marksQ (xs.map It.q) s := by
  unfold marksQ
  refine every_congr _ _ _ ?_
  rw [List.map_map, List.map_map, List.map_map]
  rfl
end Go.Proofs.YtffhejaeliphcaaDoor
