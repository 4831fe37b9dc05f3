/-
  An event and a number as results; what To answers, as data. No condition.
-/
import Derived.Test.YtkdpingniohfhaaDoorMUchk
import Derived.Test.YtkdpingniohfhaaDoorMUrise
import Derived.Laws.ResultCell
namespace Go.Proofs.YtkdpingniohfhaaDoor
open Go.RowKit
set_option linter.unusedVariables false

theorem ret_ev2 {fn : Func} {p u : Tmp} {cs : Array Value} {tmps : Array Value} {w : World} {g : Nat} {e : TypeId} (h : fn.results = #[.cell p 25, .tmp u]) (hp : tmps.getD p undef = .pointer (some ⟨g, 0, none⟩)) (hg : w.heap[g]? = some (.cells cs e (0, 0))) (hs : cs.size = 10) {v : Value} (hv : tmps.getD u undef = v) :
    (results fn tmps).run Tryd.prog w = .ok (.tuple #[.agg cs, v]) w := by
  subst hv
  rw [results_cell_tmp h, hp]
  have hl := run_loadVar_row (P := Tryd.prog) w g e 25 cs (0, 0) _ hg Tryd.underlying25 rfl (by rw [hs]; exact info_ev)
  simp [asAddr, hl]

/-- A pair of an event and a number. -/
def pairV (e : Ev) (r : Int) : Value := .tuple #[e.val, .int .i64 r]

theorem EvB.row {w : World} {b : Nat} {e : Ev} (h : EvB w b e) (f : Ev) : EvB (w.setRow b f.cells) b f := setRow_heap w b _ _ _ _ h

theorem EvB.rowOther {w : World} {b c : Nat} {e : Ev} {cs : Array Value} (h : EvB w c e) (hb : c ≠ b) : EvB (w.setRow b cs) c e := by
  unfold EvB; rw [setRow_other w b c cs hb]; exact h

theorem Tab.row {w : World} {b : Nat} {cs : Array Value} (h : Tab w) (hb : 0 < b) : Tab (w.setRow b cs) := fun j hj => by
  rw [← h j hj]
  exact World.cell?_of_block (setRow_other w b _ cs (Nat.ne_of_lt hb))

/-- What To answers. -/
def toE (f t : Int) (e : Ev) : Ev := if t < f ∨ 5 < t then zeroEv else if chk f e = 0 then Ev.steps (t - f).toNat f e else zeroEv

def toR (f t : Int) (e : Ev) : Int := if t < f ∨ 5 < t then 30 else chk f e

theorem to_bad {f t : Int} {e : Ev} (h : t < f ∨ 5 < t) : toE f t e = zeroEv ∧ toR f t e = 30 := by unfold toE toR; rw [if_pos h, if_pos h]; exact ⟨rfl, rfl⟩

theorem to_chk {f t : Int} {e : Ev} (h : ¬ (t < f ∨ 5 < t)) (h0 : chk f e ≠ 0) : toE f t e = zeroEv ∧ toR f t e = chk f e := by unfold toE toR; rw [if_neg h, if_neg h, if_neg h0]; exact ⟨rfl, rfl⟩

theorem to_ok {f t : Int} {e : Ev} (h : ¬ (t < f ∨ 5 < t)) (h0 : chk f e = 0) : toE f t e = Ev.steps (t - f).toNat f e ∧ toR f t e = 0 := by unfold toE toR; rw [if_neg h, if_neg h, if_pos h0]; exact ⟨rfl, h0⟩

theorem to_none {f t : Int} {e : Ev} (h : f < 1 ∨ 5 < f) : toE f t e = zeroEv ∧ toR f t e = 30 := by
  by_cases ht : t < f ∨ 5 < t
  · exact to_bad ht
  · have hc := chk_none (e := e) h
    obtain ⟨h1, h2⟩ := to_chk ht (by rw [hc]; decide)
    exact ⟨h1, by rw [h2, hc]⟩
end Go.Proofs.YtkdpingniohfhaaDoor
